/- Part 2 of what the proofs of this seat stand on: how plain data stand for values, and an evaluator on them that is proved sound. -/
import Derived.LoopN
import Derived.Tactics
import Derived.Orders
import Derived.Test.YtbjajidphaeogaaDoorW1
section
/- What a call hands back, and how the caller has it. By this session. -/
set_option linter.unusedVariables false
set_option linter.unusedSimpArgs false
namespace Go.Fw
variable {P : Program}

/-- a slice that nobody else has -/
def FrOK (w : World) (I K : Mem) (wd : Nat) (xs : List D) (v : Value) : Prop :=
  ∃ (a : Addr) (cap : Nat), v = .slice (some a) xs.length cap ∧ xs.length ≤ cap ∧ a.spot = none ∧ (a.off = 0 ∨ cap = 0) ∧ ¬ I a.block ∧ ¬ K a.block ∧
    Arr ⟨w, I, K, fun _ => a.block, fun _ => xs.length, fun _ => none⟩ 0 wd xs ∧ ∃ cs e fz, w.heap[a.block]? = some (.cells cs e fz) ∧ cap * wd ≤ cs.size ∧ a.off ≤ cs.size
def RelT (w : World) (I K : Mem) : D → Value → Prop
  | .fr wd xs, v => FrOK w I K wd xs.xs v
  | d, v => RelD w I d v
def frB : D → Value → Option Nat
  | .fr _ _, .slice (some a) _ _ => some a.block
  | _, _ => none
def RelTs (w : World) (I K : Mem) : List D → List Value → Prop
  | [], [] => True
  | d :: ds, v :: vs => RelT w I K d v ∧ RelTs w I K ds vs ∧ ∀ b, frB d v = some b → ∀ (j : Nat) (d' : D) (v' : Value), ds[j]? = some d' → vs[j]? = some v' → frB d' v' ≠ some b
  | _, _ => False
/-- what a function hands back -/
def RelX (w : World) (I K : Mem) : D → Value → Prop
  | .tp ds, v => ∃ vs : Array Value, v = .tuple vs ∧ RelTs w I K ds vs.toList
  | d, v => RelT w I K d v

def isFr : D → Bool
  | .fr _ _ => true
  | _ => false
theorem RelT.of_rel {w : World} {I K : Mem} {d : D} {v : Value} (h : RelD w I d v) : RelT w I K d v := by
  cases d <;> first | exact h | cases h
theorem frz_noFr {hp hp' : Heap} {v : V} {d : D} (h : frz hp v = some (d, hp')) (hv : ∀ x, v = .d x → isFr x = false) : isFr d = false := by
  cases v <;> simp only [frz] at h
  case d x => injection h with h; injection h with h1 h2; subst h1; exact hv x rfl
  case ag cs =>
    split at h
    · injection h with h; injection h with h1 h2; subst h1; rfl
    · cases h
  case fn g cs =>
    split at h
    · injection h with h; injection h with h1 h2; subst h1; rfl
    · cases h
  case ms =>
    split at h
    · obtain ⟨_, h⟩ := cond_some h; injection h with h; injection h with h1 h2; subst h1; rfl
    · obtain ⟨_, h⟩ := cond_some h; injection h with h; injection h with h1 h2; subst h1; rfl
    · cases h
  case mf =>
    split at h
    · obtain ⟨_, h⟩ := cond_some h; injection h with h; injection h with h1 h2; subst h1; rfl
    · obtain ⟨_, h⟩ := cond_some h; injection h with h; injection h with h1 h2; subst h1; rfl
    · cases h
  case fl => injection h with h; injection h with h1 h2; subst h1; rfl
  all_goals cases h

theorem rel_noFr {c : Cf} {n : Nat} {v : V} {val : Value} (h : RelV c n v val) : ∀ x, v = .d x → isFr x = false := by
  rintro x rfl
  have := h.inv_d
  cases x <;> first | rfl | cases this

theorem expTop_sound {c : Cf} {n : Nat} {hp hp' : Heap} {v : V} {d : D} {val : Value} (h : expTop hp v = some (d, hp')) (hH : RelH c n hp) (hv : RelV c n v val) :
    ∃ c', Frz c n hp hp' c' ∧ RelT c'.w c'.I c'.K d val ∧ ∀ b, frB d val = some b → (∀ id, (lk hp' id).own = true → c'.bk id ≠ b) ∧ ∃ id, (lk hp id).own = true ∧ c.bk id = b := by
  have plain : frz hp v = some (d, hp') → ∃ c', Frz c n hp hp' c' ∧ RelT c'.w c'.I c'.K d val ∧ ∀ b, frB d val = some b → (∀ id, (lk hp' id).own = true → c'.bk id ≠ b) ∧ ∃ id, (lk hp id).own = true ∧ c.bk id = b := by
    intro h
    obtain ⟨c', hF, hr⟩ := frz_sound v c hp hp' d val h hH hv
    refine ⟨c', hF, .of_rel hr, fun b hb => ?_⟩
    have hn := frz_noFr h (rel_noFr hv)
    cases d <;> first | cases hb | cases hn
  unfold expTop at h
  split at h
  · rename_i id w off len
    split at h
    · rename_i w' xs hl
      rw [Ls.len_xs] at h
      by_cases hc : (off == 0 && len == xs.xs.length && w == w') = true
      · rw [hc] at h
        injection h with h
        injection h with h1 h2
        subst h1
        subst h2
        simp only [Bool.and_eq_true, beq_iff_eq] at hc
        obtain ⟨⟨rfl, rfl⟩, rfl⟩ := hc
        have ho : (lk hp id).own = true := by rw [hl]; rfl
        have hid : id < n := hH.lt id (by rw [hl]; simp)
        have hF : Frz c n hp ((id, .dead) :: hp) c := ⟨rfl, rfl, .refl c n, relH_dead hH hid, fun _ h => .inl h, fun id' h' => by
          rw [lk_cons] at h'
          split at h'
          · cases h'
          · exact h'⟩
        cases hv with
        | ms _ _ _ _ cap a hid' hcap ha hb ho' hs =>
          obtain ⟨cs, e, fz, h1, h2, h3⟩ := hs
          refine ⟨c, hF, ⟨a, cap, rfl, hcap, ha, by simpa using ho', by rw [hb]; exact hH.own id ho, by rw [hb]; exact hH.ownK id ho, ?_, cs, e, fz, by rw [hb]; exact h1, by simpa using h2, h3⟩, fun b hb' => ?_⟩
          · refine ⟨rfl, ?_⟩
            rw [hb]
            exact (hH.arr id w xs hl).2
          · simp only [frB, Option.some.injEq] at hb'
            rw [hb] at hb'
            refine ⟨fun id' h' he => ?_, id, ho, hb'⟩
            rw [lk_cons] at h'
            split at h'
            · cases h'
            · rename_i hne
              exact hne (hH.inj id id' ho h' (hb'.trans he.symm))
      · rw [Bool.eq_false_iff.mpr hc] at h
        exact plain h
    · exact plain h
  · rename_i id w
    split at h
    · rename_i w' xs hl
      obtain ⟨hc, h'⟩ := cond_some h
      clear h
      have hc : w = w' := by simpa using hc
      subst hc
      injection h' with h'
      injection h' with h1 h2
      subst h1
      subst h2
      have ho : (lk hp id).own = true := by rw [hl]; rfl
      have hid : id < n := hH.lt id (by rw [hl]; simp)
      have hF : Frz c n hp ((id, .dead) :: hp) c := ⟨rfl, rfl, .refl c n, relH_dead hH hid, fun _ h => .inl h, fun id' h' => by
        rw [lk_cons] at h'
        split at h'
        · cases h'
        · exact h'⟩
      cases hv with
      | mf _ _ cap a hid' hcap ha hb ho' hs =>
        obtain ⟨cs, e, fz, h1, h2, h3⟩ := hs
        have hA := hH.arr id w xs hl
        have hln : c.ln id = xs.xs.length := hA.1
        rw [hln] at hcap ⊢
        refine ⟨c, hF, ⟨a, cap, rfl, hcap, ha, ho', by rw [hb]; exact hH.own id ho, by rw [hb]; exact hH.ownK id ho, ?_, cs, e, fz, by rw [hb]; exact h1, h2, h3⟩, fun b hb' => ?_⟩
        · refine ⟨rfl, ?_⟩
          rw [hb]
          exact hA.2
        · simp only [frB, Option.some.injEq] at hb'
          rw [hb] at hb'
          refine ⟨fun id' h' he => ?_, id, ho, hb'⟩
          rw [lk_cons] at h'
          split at h'
          · cases h'
          · rename_i hne
            exact hne (hH.inj id id' ho h' (hb'.trans he.symm))
    · exact plain h
  · exact plain h

theorem FrOK.mono {w w' : World} {I K I' K' : Mem} {wd : Nat} {xs : List D} {v : Value} (hw : w' = w) (hk : Kept w I w' I') (hK : K' = K) (h : FrOK w I K wd xs v) (hn : ∀ b, (∃ a l c, v = .slice (some a) l c ∧ a.block = b) → ¬ I' b) : FrOK w' I' K' wd xs v := by
  obtain ⟨a, cap, rfl, h1, h2, h3, h4, h5, h6, h7⟩ := h
  subst hw
  subst hK
  refine ⟨a, cap, rfl, h1, h2, h3, hn _ ⟨a, _, _, rfl, rfl⟩, h5, ?_, h7⟩
  obtain ⟨g0, vs, e, fz, g1, g2, g3, g4, g5, g6, g7⟩ := h6
  exact ⟨g0, vs, e, fz, g1, g2, g3, g4, g5, g6, fun j k x d hj hd => (g7 j k x d hj hd).mono hk⟩
theorem RelT.mono {w w' : World} {I K I' K' : Mem} {d : D} {v : Value} (hw : w' = w) (hk : Kept w I w' I') (hK : K' = K) (h : RelT w I K d v) (hn : ∀ b, frB d v = some b → ¬ I' b) : RelT w' I' K' d v := by
  cases d with
  | fr wd xs => exact FrOK.mono hw hk hK h (by rintro b ⟨a, l, c, rfl, rfl⟩; exact hn _ rfl)
  | _ => exact RelD.mono hk h

theorem expTops_sound {n : Nat} : ∀ (vs : List V) (c : Cf) (hp hp' : Heap) (ds : List D) (vals : List Value), expTops hp vs = some (ds, hp') → RelH c n hp → RelL c n vs vals →
    ∃ c', Frz c n hp hp' c' ∧ RelTs c'.w c'.I c'.K ds vals ∧ ∀ (j : Nat) (d : D) (v : Value) (b : Nat), ds[j]? = some d → vals[j]? = some v → frB d v = some b → (∀ id, (lk hp' id).own = true → c'.bk id ≠ b) ∧ ∃ id, (lk hp id).own = true ∧ c.bk id = b
  | [], c, hp, hp', ds, vals, h, hH, hv => by
    simp only [expTops, Option.some.injEq, Prod.mk.injEq] at h
    obtain ⟨rfl, rfl⟩ := h
    have : vals = [] := List.eq_nil_of_length_eq_zero (by simpa using hv.1)
    subst this
    exact ⟨c, .refl hH, trivial, by simp⟩
  | v :: vs, c, hp, hp', ds, vals, h, hH, hv => by
    simp only [expTops] at h
    split at h
    · rename_i d hp1 h1
      split at h
      · rename_i ds' hp2 h2
        simp only [Option.some.injEq, Prod.mk.injEq] at h
        obtain ⟨rfl, rfl⟩ := h
        obtain ⟨hlen, hrel⟩ := hv
        obtain ⟨u, hu, hru⟩ := hrel 0 v rfl
        cases vals with
        | nil => simp at hu
        | cons u' us =>
          simp only [List.getElem?_cons_zero, Option.some.injEq] at hu
          subst hu
          obtain ⟨c1, hF1, hd1, hb1⟩ := expTop_sound h1 hH hru
          have hrel' : RelL c1 n vs us := ⟨by simpa using hlen, fun j x hj => by
            obtain ⟨y, hy, hry⟩ := hrel (j + 1) x (by simpa using hj)
            exact ⟨y, by simpa using hy, hry.mono hF1.ext (Nat.le_refl n)⟩⟩
          obtain ⟨c2, hF2, hr2, hb2⟩ := expTops_sound vs c1 hp1 hp2 ds' us h2 hF1.heap hrel'
          have hne : ∀ b, frB d u' = some b → ∀ id, (lk hp1 id).own = true → c1.bk id ≠ b := fun b hb => (hb1 b hb).1
          refine ⟨c2, hF1.trans hF2, ⟨hd1.mono hF2.w hF2.ext.kept hF2.ext.K ?_, hr2, ?_⟩, ?_⟩
          · intro b hb hI
            rcases hF2.new b hI with hI | ⟨id, ho, he⟩
            · cases d with
              | fr wd xs =>
                obtain ⟨a, cap, rfl, _, _, _, hnI, _⟩ := hd1
                simp only [frB, Option.some.injEq] at hb
                subst hb
                exact hnI hI
              | _ => cases hb
            · exact hne b hb id ho he
          · intro b hb j d' v' hj hv' hb'
            obtain ⟨_, id, ho, he⟩ := hb2 j d' v' b hj hv' hb'
            exact hne b hb id ho he
          · intro j d' v' b hj hv' hb'
            cases j with
            | zero =>
              simp only [List.getElem?_cons_zero, Option.some.injEq] at hj hv'
              subst hj
              subst hv'
              obtain ⟨g1, g2⟩ := hb1 b hb'
              exact ⟨fun id ho => by rw [hF2.bk]; exact g1 id (hF2.shr id ho), g2⟩
            | succ j =>
              obtain ⟨g1, id, g2, g3⟩ := hb2 j d' v' b (by simpa using hj) (by simpa using hv') hb'
              exact ⟨g1, id, hF1.shr id g2, by rw [← g3, hF1.bk]⟩
      · cases h
    · cases h

theorem RelTs_plain {w : World} {I K : Mem} : ∀ {ds : List D} {vs : List Value}, vs.length = ds.length → (∀ (j : Nat) (d : D), ds[j]? = some d → ∃ v, vs[j]? = some v ∧ RelD w I d v) → RelTs w I K ds vs
  | [], vs, hl, h => by
    have : vs = [] := List.eq_nil_of_length_eq_zero (by simpa using hl)
    subst this; trivial
  | d :: ds, vs, hl, h => by
    cases vs with
    | nil => simp at hl
    | cons v vs =>
      obtain ⟨v', hv, hr⟩ := h 0 d rfl
      simp only [List.getElem?_cons_zero, Option.some.injEq] at hv
      subst hv
      refine ⟨.of_rel hr, RelTs_plain (by simpa using hl) (fun j d hj => by simpa using h (j + 1) d (by simpa using hj)), fun b hb => ?_⟩
      cases d <;> first | cases hb | cases hr

theorem expD_sound {c : Cf} {n : Nat} {hp : Heap} {v : V} {d : D} {val : Value} (h : expD hp v = some d) (hH : RelH c n hp) (hv : RelV c n v val) :
    ∃ c' hp', Frz c n hp hp' c' ∧ RelX c'.w c'.I c'.K d val := by
  unfold expD at h
  split at h
  · rename_i vs
    obtain ⟨⟨ds, hp'⟩, he, rfl⟩ := Option.map_eq_some_iff.1 h
    cases hv with
    | tp _ us hl hh =>
      obtain ⟨c', hF, hr, _⟩ := expTops_sound vs c hp hp' ds us.toList he hH ⟨by simpa using hl, fun j x hj => by
        have hlt := (List.getElem?_eq_some_iff.1 hj).1
        refine ⟨us.getD j undef, ?_, hh j x hj⟩
        rw [Array.getElem?_toList, Array.getD_eq_getD_getElem?, Array.getElem?_eq_getElem (by omega)]; rfl⟩
      exact ⟨c', hp', hF, us, rfl, hr⟩
  · rename_i hnt
    obtain ⟨⟨d', hp'⟩, he, rfl⟩ := Option.map_eq_some_iff.1 h
    obtain ⟨c', hF, hr, _⟩ := expTop_sound he hH hv
    refine ⟨c', hp', hF, ?_⟩
    cases d' with
    | tp ds =>
      cases hr with
      | tp _ us hl hh =>
        refine ⟨us, rfl, RelTs_plain (by simpa using hl) fun j d hj => ?_⟩
        have hlt := (List.getElem?_eq_some_iff.1 hj).1
        refine ⟨us.getD j undef, ?_, hh j d hj⟩
        rw [Array.getElem?_toList, Array.getD_eq_getD_getElem?, Array.getElem?_eq_getElem (by omega)]; rfl
    | _ => exact hr

/-! the caller has it -/
theorem impTop_sound {c : Cf} {n : Nat} {hp : Heap} (hH : RelH c n hp) {d : D} {v : Value} (hr : RelT c.w c.I c.K d v) (hb : ∀ b, frB d v = some b → ∀ id, (lk hp id).own = true → c.bk id ≠ b) :
    ∃ c', c'.w = c.w ∧ c'.I = c.I ∧ Outs c n (impTop n hp d) v c' ∧ ∀ id, (lk (impTop n hp d).2.2 id).own = true → (lk hp id).own = true ∧ c'.bk id = c.bk id ∨ frB d v = some (c'.bk id) := by
  have plain : impTop n hp d = (.d d, n, hp) → RelD c.w c.I d v → ∃ c', c'.w = c.w ∧ c'.I = c.I ∧ Outs c n (impTop n hp d) v c' ∧ ∀ id, (lk (impTop n hp d).2.2 id).own = true → (lk hp id).own = true ∧ c'.bk id = c.bk id ∨ frB d v = some (c'.bk id) := by
    intro he hd
    rw [he]
    exact ⟨c, rfl, rfl, .same hH (.d _ _ hd), fun id ho => .inl ⟨ho, rfl⟩⟩
  cases d with
  | fr wd xs =>
    obtain ⟨a, cap, rfl, h1, h2, h3, h4, h5, h6, cs, e, fz, h7, h8, h9⟩ := hr
    let c' : Cf := { c with bk := fun k => if k = n then a.block else c.bk k, ln := fun k => if k = n then xs.xs.length else c.ln k }
    have hx : Ext c n c' := ⟨Nat.le_refl _, fun _ h => ⟨h, rfl⟩, fun _ cs _ _ h => ⟨cs, h, rfl⟩, fun id hid => by simp only [c']; rw [if_neg (by omega)], fun id hid => by simp only [c']; rw [if_neg (by omega)], rfl, rfl, fun _ _ => rfl, rfl, rfl, rfl⟩
    have hbn : c'.bk n = a.block := by simp [c']
    have hln' : c'.ln n = xs.xs.length := by simp [c']
    have hm : RelH c' (n + 1) hp := hH.mono hx (Nat.le_succ n) (fun _ _ => rfl) (fun id ho => hH.own id ho) hH.low hH.disj
    have hA : Arr c' n wd xs.xs := by
      refine ⟨hln', ?_⟩
      rw [hbn]
      exact h6.2
    refine ⟨c', rfl, rfl, ⟨hx, Nat.le_succ n, hm.push (Nat.lt_succ_self n) ⟨hA, by rw [hbn]; exact h4⟩ (fun _ id' hne ho' => ?_) (fun _ => by rw [hbn]; exact h5), ?_⟩, fun id ho => ?_⟩
    · have hlt := hH.lt id' (by intro e; rw [e] at ho'; cases ho')
      rw [hbn, hx.bk id' hlt]
      exact fun e => hb _ rfl id' ho' e.symm
    · have := RelV.mf (c := c') (n := n + 1) n wd cap a (Nat.lt_succ_self n) (by rw [hln']; exact h1) h2 hbn.symm h3 ⟨cs, e, fz, by rw [hbn]; exact h7, h8, h9⟩
      rw [hln'] at this
      exact this
    · simp only [impTop, lk_cons] at ho
      split at ho
      · rename_i e
        right
        rw [← e, hbn]; rfl
      · left
        have hlt := hH.lt id (by intro e; rw [e] at ho; cases ho)
        exact ⟨ho, hx.bk id hlt⟩
  | _ => exact plain rfl hr

theorem impTops_sound : ∀ (ds : List D) (c : Cf) (n : Nat) (hp : Heap) (vs : List Value), RelH c n hp → RelTs c.w c.I c.K ds vs →
    (∀ (j : Nat) (d : D) (v : Value) (b : Nat), ds[j]? = some d → vs[j]? = some v → frB d v = some b → ∀ id, (lk hp id).own = true → c.bk id ≠ b) →
    ∃ c', c'.w = c.w ∧ c'.I = c.I ∧ Ext c n c' ∧ n ≤ (impTops n hp ds).2.1 ∧ RelH c' (impTops n hp ds).2.1 (impTops n hp ds).2.2 ∧ RelL c' (impTops n hp ds).2.1 (impTops n hp ds).1 vs
  | [], c, n, hp, vs, hH, hr, hb => by
    cases vs with
    | nil => exact ⟨c, rfl, rfl, .refl c n, Nat.le_refl n, hH, rfl, by simp [impTops]⟩
    | cons a b => exact hr.elim
  | d :: ds, c, n, hp, vs, hH, hr, hb => by
    cases vs with
    | nil => exact hr.elim
    | cons v vs =>
      obtain ⟨h1, h2, h3⟩ := hr
      obtain ⟨c1, hw, hI, hO, hown⟩ := impTop_sound hH h1 (fun b hb' => hb 0 d v b rfl rfl hb')
      have hK : c1.K = c.K := hO.ext.K
      have hr' : RelTs c1.w c1.I c1.K ds vs := by rw [hw, hI, hK]; exact h2
      obtain ⟨c2, hw2, hI2, hx2, hn2, hH2, hL2⟩ := impTops_sound ds c1 (impTop n hp d).2.1 (impTop n hp d).2.2 vs hO.heap hr' (fun j d' v' b hj hv' hb' id ho => by
        rcases hown id ho with ⟨g1, g2⟩ | g
        · rw [g2]; exact hb (j + 1) d' v' b (by simpa using hj) (by simpa using hv') hb' id g1
        · intro e
          rw [e] at g
          exact h3 b g j d' v' hj hv' hb')
      refine ⟨c2, hw2.trans hw, hI2.trans hI, hO.ext.trans hx2 hO.le, Nat.le_trans hO.le hn2, hH2, ?_, fun j x hj => ?_⟩
      · simp only [impTops, List.length_cons]
        rw [hL2.1]
      · simp only [impTops] at hj ⊢
        cases j with
        | zero =>
          simp only [List.getElem?_cons_zero, Option.some.injEq] at hj
          subst hj
          exact ⟨v, rfl, hO.rel.mono hx2 hn2⟩
        | succ j => simpa using hL2.2 j x (by simpa using hj)

theorem RelT.weak {w : World} {I K K' : Mem} (hK : ∀ b, K' b → K b) {d : D} {v : Value} (h : RelT w I K d v) : RelT w I K' d v := by
  cases d with
  | fr wd xs =>
    obtain ⟨a, cap, rfl, h1, h2, h3, h4, h5, h6, h7⟩ := h
    exact ⟨a, cap, rfl, h1, h2, h3, h4, fun hk => h5 (hK _ hk), h6, h7⟩
  | _ => exact h
theorem RelT.frK {w : World} {I K : Mem} {d : D} {v : Value} (h : RelT w I K d v) {b : Nat} (hb : frB d v = some b) : ¬ K b := by
  cases d with
  | fr wd xs =>
    obtain ⟨a, cap, rfl, h1, h2, h3, h4, h5, h6, h7⟩ := h
    simp only [frB, Option.some.injEq] at hb
    subst hb
    exact h5
  | _ => cases hb
theorem RelTs.weak {w : World} {I K K' : Mem} (hK : ∀ b, K' b → K b) : ∀ {ds : List D} {vs : List Value}, RelTs w I K ds vs → RelTs w I K' ds vs
  | [], [], _ => trivial
  | d :: ds, v :: vs, h => ⟨h.1.weak hK, RelTs.weak hK h.2.1, h.2.2⟩
  | [], _ :: _, h => h.elim
  | _ :: _, [], h => h.elim
theorem RelTs.frK {w : World} {I K : Mem} : ∀ {ds : List D} {vs : List Value}, RelTs w I K ds vs → ∀ (j : Nat) (d : D) (v : Value) (b : Nat), ds[j]? = some d → vs[j]? = some v → frB d v = some b → ¬ K b
  | [], [], _, j, d, v, b, hj, _, _ => by simp at hj
  | d :: ds, v :: vs, h, j, d', v', b, hj, hv, hb => by
    cases j with
    | zero =>
      simp only [List.getElem?_cons_zero, Option.some.injEq] at hj hv
      subst hj
      subst hv
      exact h.1.frK hb
    | succ j => exact RelTs.frK h.2.1 j d' v' b (by simpa using hj) (by simpa using hv) hb
  | [], _ :: _, h, _, _, _, _, _, _, _ => h.elim
  | _ :: _, [], h, _, _, _, _, _, _, _ => h.elim

theorem impD_sound {c : Cf} {n : Nat} {hp : Heap} (hH : RelH c n hp) {d : D} {v : Value} {K : Mem} (hr : RelX c.w c.I K d v) (hK : ∀ b, c.K b → K b) (ho : ∀ id, (lk hp id).own = true → K (c.bk id)) :
    ∃ c', c'.w = c.w ∧ Outs c n (impD n hp d) v c' := by
  have go : ∀ d : D, RelT c.w c.I K d v → impD n hp d = impTop n hp d → ∃ c', c'.w = c.w ∧ Outs c n (impD n hp d) v c' := by
    intro d hr he
    obtain ⟨c', hw, hI, hO, _⟩ := impTop_sound hH (RelT.weak hK hr) (fun b hb id hid e => RelT.frK hr hb (e ▸ ho id hid))
    rw [he]
    exact ⟨c', hw, hO⟩
  cases d with
  | tp ds =>
    obtain ⟨vs, rfl, hT⟩ := hr
    obtain ⟨c', hw, hI, hx, hn, hH', hL⟩ := impTops_sound ds c n hp vs.toList hH (hT.weak hK) (fun j d v b hj hv hb id hid e => hT.frK j d v b hj hv hb (e ▸ ho id hid))
    refine ⟨c', hw, hx, hn, hH', ?_⟩
    refine mkTp_rel _ _ (by simpa using hL.1) (fun j x hj => ?_)
    obtain ⟨u, hu, hru⟩ := hL.2 j x hj
    rw [Array.getElem?_toList] at hu
    rw [Array.getD_eq_getD_getElem?, hu]
    exact hru
  | _ => exact go _ hr rfl

/-! calls -/
/-- a function that can be entered -/
def Enters (P : Program) (g : FuncId) : Prop := ∃ fn, P.funcs[g]? = some fn ∧ (fn.name == "runtime.NumGoroutine") = false ∧ fn.body.isNone = false
theorem Enters.run {g : FuncId} (h : Enters P g) (vs : Array Value) (w : World) : (callFunc g vs).run P w = .ok (.enter g vs) w := by
  obtain ⟨fn, h1, h2, h3⟩ := h
  unfold callFunc
  simp only [Sem.run_bind, run_program, Result.andThen_ok, h1, h2, h3, Bool.false_eq_true, if_false]
  rfl
/-- a call on plain data -/
def PCall (P : Program) (G : Nat → Option (List D)) (g : FuncId) (ds : List D) (r : D) : Prop :=
  ∀ (w : World) (I K : Mem) (vs : Array Value), Glob ⟨w, I, K, fun _ => 0, fun _ => 0, G⟩ → (∀ b, I b → b < w.heap.size) → (∀ b, K b → b < w.heap.size) → (∀ b, I b → ¬ K b) → vs.size = ds.length →
    (∀ (j : Nat) (d : D), ds[j]? = some d → RelD w I d (vs.getD j undef)) →
    Calls P g vs w fun e w' => ∃ v I', e = .returned v ∧ w.heap.size ≤ w'.heap.size ∧ Kept w I w' I' ∧ (∀ b, K b → w'.heap[b]? = w.heap[b]?) ∧ (∀ b, I' b → b < w'.heap.size ∧ ¬ K b) ∧
      (∀ (b : Nat) (cs : Array Value) (e : TypeId) (fz : Nat × Nat), w.heap[b]? = some (.cells cs e fz) → ∃ cs' : Array Value, w'.heap[b]? = some (.cells cs' e fz) ∧ cs'.size = cs.size) ∧
      w'.os = w.os ∧ w'.tape = w.tape ∧ w'.output = w.output ∧ RelX w' I' K r v
/-- a call in common memory -/
def MCall (P : Program) (G : Nat → Option (List D)) (g : FuncId) (xs : List V) (n : Nat) (hp : Heap) (r : V × Nat × Heap) : Prop :=
  ∀ (c : Cf) (vs : Array Value), c.G = G → Glob c → RelH c n hp → RelL c n xs vs.toList → Calls P g vs c.w fun e w' => ∃ v c', e = .returned v ∧ w' = c'.w ∧ Outs c n r v c'
/-- a function of the model's own -/
def ExtOK (P : Program) (g : FuncId) (f : List D → Option D) : Prop :=
  ∀ ds r, f ds = some r → ∀ (w : World) (I : Mem) (vs : Array Value), vs.size = ds.length → (∀ (j : Nat) (d : D), ds[j]? = some d → RelD w I d (vs.getD j undef)) → ∃ v, (callFunc g vs).run P w = .ok (.value v) w ∧ RelD w I r v

structure CallsOK (P : Program) (h : Hs) : Prop where
  ext : ∀ g f, h.ext g = some f → ExtOK P g f
  pcall : ∀ g ds r, h.pcall g ds = some r → Enters P g ∧ PCall P h.G g ds r
  call : ∀ g xs n hp r, h.call g xs n hp = some r → Enters P g ∧ MCall P h.G g xs n hp r

theorem callV_wp {h : Hs} (hok : CallsOK P h) {g : FuncId} {xs : List V} {n : Nat} {hp : Heap} {r : V × Nat × Heap} (he : callV h g xs n hp = some r) {c : Cf} {vs : Array Value} (hG : h.G = c.G) (hg : Glob c) (hH : RelH c n hp) (hL : RelL c n xs vs.toList)
    {o : Oper} {a : Act} {K : Act → World → Prop} {Q : Exit → Act → World → Prop} (hK : ∀ v c', Outs c n r v c' → K (a.put o.dst v) c'.w) : o.upon P a K Q ((callFunc g vs).run P c.w) := by
  unfold callV at he
  split at he
  · rename_i ds hp' hf
    replace hf : frzs hp xs = some (ds, hp') := by
      cases hi : h.inl g <;> rw [hi] at hf
      · exact hf
      · cases hf
    obtain ⟨c1, hF, hlen, hrel⟩ := frzs_sound xs c hp hp' ds vs.toList hf hH hL
    have hsz : vs.size = ds.length := by rw [hlen, ← hL.1]; simp
    have hargs : ∀ (j : Nat) (d : D), ds[j]? = some d → RelD c1.w c1.I d (vs.getD j undef) := fun j d hj => by
      obtain ⟨v, hv, hrv⟩ := hrel j d hj
      rw [Array.getElem?_toList] at hv
      rw [Array.getD_eq_getD_getElem?, hv]; exact hrv
    split at he
    · rename_i f hfx
      split at he
      · rename_i r' hr
        injection he with he
        subst he
        obtain ⟨v, hrun, hrv⟩ := hok.ext g f hfx ds r' hr c1.w c1.I vs hsz hargs
        rw [hF.w] at hrun
        rw [hrun]
        have := hK v c1 ⟨hF.ext, Nat.le_refl n, hF.heap, .d _ _ hrv⟩
        rw [hF.w] at this
        exact this
      · cases he
    · split at he
      · rename_i r' hr
        injection he with he
        subst he
        let K' : Mem := fun b => b < c1.w.heap.size ∧ ¬ c1.I b
        obtain ⟨hent, hp1⟩ := hok.pcall g ds r' hr
        have hgl : Glob ⟨c1.w, c1.I, K', fun _ => 0, fun _ => 0, h.G⟩ := by
          have := hg.mono hF.ext
          intro g' cs hgc
          rw [hG, ← hF.ext.G] at hgc
          exact this g' cs hgc
        have hcall := hp1 c1.w c1.I K' vs hgl hF.heap.low (fun b hb => hb.1) (fun b hb hk => hk.2 hb) hsz hargs
        rw [hF.w] at hcall
        rw [hent.run]
        refine hcall.mono ?_
        rintro e w' ⟨v, I', rfl, h1, h2, h3, h4, h5, h6, h7, h8, h9⟩
        let c2 : Cf := { w := w', I := I', K := c1.K, bk := c1.bk, ln := c1.ln, G := c1.G }
        have hKK : ∀ b, c1.K b → K' b := fun b hb => ⟨hF.heap.lowK b hb, fun hI => hF.heap.disj b hI hb⟩
        have hown : ∀ id, (lk hp' id).own = true → K' (c1.bk id) := fun id ho => ⟨own_lt hF.heap ho, hF.heap.own id ho⟩
        have hx : Ext c1 n c2 := by
          refine ⟨by rw [hF.w]; exact h1, ?_, ?_, fun _ _ => rfl, fun _ _ => rfl, rfl, rfl, ?_, by rw [hF.w]; exact h6, by rw [hF.w]; exact h7, by rw [hF.w]; exact h8⟩
          · rw [hF.w]; exact h2
          · rw [hF.w]; exact h5
          · rw [hF.w]; exact fun b hb => h3 b (hKK b hb)
        have hH2 : RelH c2 n hp' := hF.heap.mono hx (Nat.le_refl n) (fun id ho => by rw [hF.w]; exact h3 _ (hown id ho)) (fun id ho hI => (h4 _ hI).2 (hown id ho)) (fun b hb => (h4 b hb).1) (fun b hb hk => (h4 b hb).2 (hKK b hk))
        obtain ⟨c3, hw3, hO⟩ := impD_sound (c := c2) hH2 (d := r') (v := v) (K := K') h9 hKK hown
        have := hK v c3 (hO.after (hF.ext.trans hx (Nat.le_refl n)))
        rw [hw3] at this
        exact this
      · cases he
  · split at he
    · cases he
    · obtain ⟨hent, hm⟩ := hok.call g xs n hp r he
      rw [hent.run]
      refine (hm c vs hG.symm hg hH hL).mono ?_
      rintro e w' ⟨v, c', rfl, rfl, hO⟩
      exact hK v c' hO

theorem calleeV_wp {h : Hs} (hok : CallsOK P h) {o : Oper} {cl : Call} {fo : Operand} (ho : o.op = .call cl) (hcl : cl.callee = .value fo) {f : Slots} {n : Nat} {hp : Heap} {r : V × Nat × Heap} {a : Act} {c : Cf}
    (he : calleeV h f fo (cl.args.toList.map (opV h.G f)) n hp = some r) (hG : h.G = c.G) (hs : RelS c n f a.tmps) (hH : RelH c n hp)
    {K : Act → World → Prop} {Q : Exit → Act → World → Prop} (hK : ∀ v c', Outs c n r v c' → K (a.put o.dst v) c'.w) : o.wp P a c.w K Q := by
  have hf := opV_rel hs fo
  have hargs := list_rel hs cl.args
  rw [← hG] at hf hargs
  unfold calleeV at he
  unfold Oper.wp
  have app : ∀ (ys : List V) (us : Array Value), RelL c n ys us.toList → RelL c n (cl.args.toList.map (opV h.G f) ++ ys) ((cl.args.map a.eval) ++ us).toList := by
    intro ys us hL
    refine ⟨by simp [hL.1, ← hargs.1], fun j x hj => ?_⟩
    rw [List.getElem?_append] at hj
    rw [Array.toList_append, List.getElem?_append]
    have hl : (cl.args.map a.eval).toList.length = (cl.args.toList.map (opV h.G f)).length := hargs.1
    rw [hl]
    split at hj
    · rename_i hlt; rw [if_pos hlt]; exact hargs.2 j x hj
    · rename_i hlt; rw [if_neg hlt]; exact hL.2 _ x hj
  split at he
  · rename_i g cs hfv
    rw [hfv] at hf
    generalize hv : a.eval fo = v at hf
    cases hf.inv_d with
    | fn _ _ vs hl hh =>
      have hrun : (execOp a.eval o).run P c.w = (callFunc g ((cl.args.map a.eval) ++ vs)).run P c.w := by
        simp [execOp, ho, resolve, hcl, hv, Deferred.ofValue, invoke]
      rw [hrun]
      refine callV_wp hok he hG hs.glob hH (app _ _ ⟨by simpa using hl, fun j x hj => ?_⟩) hK
      simp only [List.getElem?_map] at hj
      obtain ⟨d, hd, rfl⟩ := Option.map_eq_some_iff.1 hj
      have hlt := (List.getElem?_eq_some_iff.1 hd).1
      refine ⟨vs.getD j undef, ?_, .d _ _ (hh j d hd)⟩
      rw [Array.getElem?_toList, Array.getD_eq_getD_getElem?, Array.getElem?_eq_getElem (by omega)]; rfl
  · rename_i g cs hfv
    rw [hfv] at hf
    generalize hv : a.eval fo = v at hf
    cases hf with
    | fn _ _ vs hl hh =>
      have hrun : (execOp a.eval o).run P c.w = (callFunc g ((cl.args.map a.eval) ++ vs)).run P c.w := by
        simp [execOp, ho, resolve, hcl, hv, Deferred.ofValue, invoke]
      rw [hrun]
      refine callV_wp hok he hG hs.glob hH (app _ _ ⟨by simpa using hl, fun j x hj => ?_⟩) hK
      have hlt := (List.getElem?_eq_some_iff.1 hj).1
      refine ⟨vs.getD j undef, ?_, hh j x hj⟩
      rw [Array.getElem?_toList, Array.getD_eq_getD_getElem?, Array.getElem?_eq_getElem (by omega)]; rfl
  · cases he
end Go.Fw
end
section
/- Code, and whole functions, do what the plain evaluator says. By this session. -/
set_option linter.unusedVariables false
set_option linter.unusedSimpArgs false
namespace Go.Fw
variable {P : Program}

structure SR (G : Nat → Option (List D)) (nt : Nat) (c : Cf) (st : St) (a : Act) : Prop where
  g : c.G = G
  s : RelS c st.n st.f a.tmps
  h : RelH c st.n st.h
  size : a.tmps.size = nt
  defers : a.defers = []

theorem put_size (a : Act) (dst : Option Nat) (v : Value) : (a.put dst v).tmps.size = a.tmps.size := by
  cases dst <;> simp [Act.put]
theorem put_defers (a : Act) (dst : Option Nat) (v : Value) : (a.put dst v).defers = a.defers := by
  cases dst <;> rfl

theorem SR.put {G : Nat → Option (List D)} {nt : Nat} {c c' : Cf} {st : St} {a : Act} (h : SR G nt c st a) {r : V × Nat × Heap} {v : Value} (ho : Outs c st.n r v c') {dst : Option Nat} (hd : ∀ d, dst = some d → d < nt) :
    SR G nt c' (St.put { st with n := r.2.1, h := r.2.2 } dst r.1) (a.put dst v) := by
  refine ⟨ho.ext.G.trans h.g, ?_, ?_, by rw [put_size]; exact h.size, by rw [put_defers]; exact h.defers⟩
  · have h1 : RelS c' r.2.1 st.f a.tmps := h.s.mono ho.ext ho.le
    cases dst with
    | none => exact h1
    | some d => exact h1.put ho.rel (by rw [h.size]; exact hd d rfl)
  · cases dst <;> exact ho.heap

theorem SR.skip {G : Nat → Option (List D)} {nt : Nat} {c : Cf} {st : St} {a : Act} (h : SR G nt c st a) {dst : Option Nat} (hd : ∀ d, dst = some d → d < nt) : SR G nt c (st.put dst (.d (.tp []))) (a.put dst undef) := by
  refine ⟨h.g, ?_, ?_, by rw [put_size]; exact h.size, by rw [put_defers]; exact h.defers⟩
  · cases dst with
    | none => exact h.s
    | some d => exact h.s.put (.d _ _ (.tp [] #[] rfl (by simp))) (by rw [h.size]; exact hd d rfl)
  · cases dst <;> exact h.h

theorem evOp_wp {h : Hs} (hok : CallsOK P h) {o : Oper} {f : Slots} {n : Nat} {hp : Heap} {a : Act} {c : Cf} {r : V × Nat × Heap} (he : evOp P h o f n hp = some r) (hG : h.G = c.G) (hs : RelS c n f a.tmps) (hH : RelH c n hp)
    {K : Act → World → Prop} {Q : Exit → Act → World → Prop} (hK : ∀ v c', Outs c n r v c' → K (a.put o.dst v) c'.w) : o.wp P a c.w K Q := by
  by_cases hcf : callFree o.op = true
  · obtain ⟨v, c', hr, ho⟩ := evOp_sound hcf he hG hs hH
    exact hr.wp (hK v c' ho)
  · unfold evOp at he
    unfold callFree at hcf
    split at hcf
    · rename_i cl hop
      rw [hop] at he
      simp only [] at he
      split at he
      · rename_i hcl; rw [hcl] at hcf; exact absurd rfl hcf
      · rename_i hcl; rw [hcl] at hcf; exact absurd rfl hcf
      · rename_i g hcl
        exact calleeV_wp hok hop hcl he hG hs hH hK
      · cases he
    · exact absurd rfl hcf

theorem step1_wp {h : Hs} (hok : CallsOK P h) {nt : Nat} {o : Oper} {st st' : St} {a : Act} {c : Cf} (he : step1 P h o st = some st') (hr : SR h.G nt c st a) (hd : ∀ d, o.dst = some d → d < nt)
    {K : Act → World → Prop} {Q : Exit → Act → World → Prop} (hK : ∀ v c', Ext c st.n c' → st.n ≤ st'.n → SR h.G nt c' st' (a.put o.dst v) → K (a.put o.dst v) c'.w) : o.wp P a c.w K Q := by
  unfold step1 at he
  split at he
  · rename_i v n hp hop
    injection he with he
    subst he
    refine evOp_wp hok hop hr.g.symm hr.s hr.h fun val c' ho => hK _ c' ho.ext ?_ (hr.put ho hd)
    have := ho.le
    cases o.dst <;> exact this
  · cases he

theorem yielded_of {all : Array Oper} {c : Cf} {n : Nat} {f : Slots} {a : Act} (hs : RelS c n f a.tmps) {nt : Nat} (hsz : a.tmps.size = nt) {j t : Nat} {x : Bool} (hg : guardAt all.toList j = some t) (ht : t < nt) (hx : get f t = .d (.b x)) :
    yielded all a.tmps j = some x := by
  have h1 := hs.get t
  rw [hx] at h1
  unfold yielded
  unfold guardAt at hg
  rw [Array.getElem?_toList] at hg
  rw [hg]
  simp only [Option.bind_some]
  have h2 : a.tmps[t]? = some (a.tmps.getD t undef) := by rw [Array.getD_eq_getD_getElem?, Array.getElem?_eq_getElem (by omega)]; rfl
  rw [h2]
  generalize a.tmps.getD t undef = v at h1
  cases h1.inv_d
  rfl

theorem yielded_none {all : Array Oper} {c : Cf} {n : Nat} {f : Slots} {a : Act} (hs : RelS c n f a.tmps) {nt : Nat} (hsz : a.tmps.size = nt) {j t : Nat} (hg : guardAt all.toList j = some t) (ht : t < nt) (hx : get f t = .d (.tp [])) :
    yielded all a.tmps j = none := by
  have h1 := hs.get t
  rw [hx] at h1
  unfold yielded
  unfold guardAt at hg
  rw [Array.getElem?_toList] at hg
  rw [hg]
  simp only [Option.bind_some]
  have h2 : a.tmps[t]? = some (a.tmps.getD t undef) := by rw [Array.getD_eq_getD_getElem?, Array.getElem?_eq_getElem (by omega)]; rfl
  rw [h2]
  generalize a.tmps.getD t undef = v at h1
  cases h1.inv_d
  rfl

/-- one operation, with its guard -/
theorem evOper_wp {h : Hs} (hok : CallsOK P h) {nt : Nat} {all : Array Oper} (hall : ∀ o ∈ all.toList, ∀ d, o.dst = some d → d < nt) {o : Oper} (hin : o ∈ all.toList) {st st1 : St} {a : Act} {c : Cf}
    (he : evOper P h all.toList o st = some st1) (hr : SR h.G nt c st a) {K : Act → World → Prop} {Q : Exit → Act → World → Prop}
    (hK : ∀ v c', Ext c st.n c' → st.n ≤ st1.n → SR h.G nt c' st1 (a.put o.dst v) → K (a.put o.dst v) c'.w) :
    if Region.wanted o (yielded all a.tmps) then o.wp P a c.w K Q ∨ (o.asks P a c.w ∧ LetsOut Q) else K (a.put o.dst undef) c.w := by
  have hd : ∀ d, o.dst = some d → d < nt := hall o hin
  unfold evOper at he
  have skip : st1 = st.put o.dst (.d (.tp [])) → K (a.put o.dst undef) c.w := by
    rintro rfl
    refine hK _ c (.refl c _) ?_ (hr.skip hd)
    cases o.dst <;> exact Nat.le_refl _
  split at he
  · rename_i hg
    rw [if_pos (by simp [Region.wanted, hg])]
    exact .inl (step1_wp hok he hr hd hK)
  · rename_i j want hg
    split at he
    · rename_i t ht
      have htl : t < nt := by
        unfold guardAt at ht
        obtain ⟨o', ho', hd'⟩ := Option.bind_eq_some_iff.1 ht
        exact hall o' (List.mem_of_getElem? ho') t hd'
      split at he
      · rename_i x hx
        have hy := yielded_of hr.s hr.size ht htl hx
        by_cases hxw : (x == want) = true
        · rw [hxw] at he
          rw [if_pos (by simp [Region.wanted, hg, hy]; simpa using hxw)]
          exact .inl (step1_wp hok he hr hd hK)
        · rw [Bool.eq_false_iff.mpr hxw] at he
          injection he with he
          rw [if_neg (by simp [Region.wanted, hg, hy]; simpa using hxw)]
          exact skip he.symm
      · rename_i hx
        have hy := yielded_none hr.s hr.size ht htl hx
        injection he with he
        rw [if_neg (by simp [Region.wanted, hg, hy])]
        exact skip he.symm
      · cases he
    · cases he

theorem evOps_wp {h : Hs} (hok : CallsOK P h) {nt : Nat} {all : Array Oper} (hall : ∀ o ∈ all.toList, ∀ d, o.dst = some d → d < nt) {Q : Exit → Act → World → Prop} : ∀ (os : List Oper) (st st' : St) (a : Act) (c : Cf), (∀ o ∈ os, o ∈ all.toList) →
    evOps P h all.toList os st = some st' → SR h.G nt c st a → (∀ a' c', Ext c st.n c' → st.n ≤ st'.n → SR h.G nt c' st' a' → Q .normal a' c'.w) → wpList P all Q os a c.w
  | [], st, st', a, c, hin, he, hr, hQ => by
    simp only [evOps, Option.some.injEq] at he
    subst he
    exact hQ a c (.refl c _) (Nat.le_refl _) hr
  | o :: os, st, st', a, c, hin, he, hr, hQ => by
    simp only [evOps] at he
    split at he
    · rename_i st1 h1
      unfold wpList
      exact evOper_wp hok hall (hin o List.mem_cons_self) h1 hr fun v c' hx hn hr' =>
        evOps_wp hok hall os st1 st' _ c' (fun o ho => hin o (List.mem_cons_of_mem _ ho)) he hr' fun a2 c2 hx2 hn2 hr2 => hQ a2 c2 (hx.trans hx2 hn) (Nat.le_trans hn hn2) hr2
    · cases he

end Go.Fw
end
section
/- Regions whose order is drawn: whatever the order, what the plain evaluator says. By this session. -/
set_option linter.unusedVariables false
set_option linter.unusedSimpArgs false
namespace Go.Fw
variable {P : Program}

/-! ### numbers in a value -/
theorem RelV.inB {c : Cf} {n : Nat} {x : V} {v : Value} (h : RelV c n x v) : inB (fun id => Nat.blt id n) x = true := by
  have hs : ∀ (cs : List V) (vs : Array Value), vs.size = cs.length → (∀ (j : Nat) (x : V), cs[j]? = some x → Fw.inB (fun id => Nat.blt id n) x = true) → inBs (fun id => Nat.blt id n) cs = true := by
    intro cs
    induction cs with
    | nil => intro vs _ _; rfl
    | cons x cs ih =>
      intro vs hl hx
      simp only [inBs, Bool.and_eq_true]
      refine ⟨hx 0 x rfl, ih (vs.extract 1 vs.size) (by simp at hl ⊢; omega) fun j y hj => hx (j + 1) y (by simpa using hj)⟩
  induction h with
  | d x v h => rfl
  | ag cs vs hl h1 h ih => exact hs cs vs hl ih
  | tp cs vs hl h ih => exact hs cs vs hl ih
  | fn f cs vs hl h ih => exact hs cs vs hl ih
  | pt id off hid => simpa [Fw.inB, Nat.blt_eq] using hid
  | mf id wd cap a hid => simpa [Fw.inB, Nat.blt_eq] using hid
  | ms id wd off len cap a hid => simpa [Fw.inB, Nat.blt_eq] using hid
  | ep id wd k o hid => simpa [Fw.inB, Nat.blt_eq] using hid
  | rp => rfl
  | fl => rfl
  | fl0 => rfl
  | junk v => rfl

theorem inBs_all {p : Nat → Bool} : ∀ {cs : List V}, inBs p cs = true → ∀ (j : Nat) (x : V), cs[j]? = some x → inB p x = true
  | [], _, j, x, hj => by simp at hj
  | y :: cs, h, j, x, hj => by
    simp only [inBs, Bool.and_eq_true] at h
    cases j with
    | zero => simp at hj; subst hj; exact h.1
    | succ j => exact inBs_all h.2 j x (by simpa using hj)

structure ExtW (c c' : Cf) : Prop where
  kept : Kept c.w c.I c'.w c'.I
  shape : ∀ (b : Nat) (cs : Array Value) (e : TypeId) (fz : Nat × Nat), c.w.heap[b]? = some (.cells cs e fz) → ∃ cs' : Array Value, c'.w.heap[b]? = some (.cells cs' e fz) ∧ cs'.size = cs.size
theorem Ext.W {c c' : Cf} {n : Nat} (h : Ext c n c') : ExtW c c' := ⟨h.kept, h.shape⟩

theorem RelV.move {c c' : Cf} {n n' : Nat} (hx : ExtW c c') {p : Nat → Bool} (hp : ∀ id, p id = true → id < n' ∧ c'.bk id = c.bk id ∧ c'.ln id = c.ln id) {x : V} {v : Value} (h : RelV c n x v) (hi : Fw.inB p x = true) : RelV c' n' x v := by
  induction h with
  | d x v h => exact .d x v (h.mono hx.kept)
  | ag cs vs hl h1 h ih => exact .ag cs vs hl h1 fun j x hj => ih j x hj (inBs_all hi j x hj)
  | tp cs vs hl h ih => exact .tp cs vs hl fun j x hj => ih j x hj (inBs_all hi j x hj)
  | fn f cs vs hl h ih => exact .fn f cs vs hl fun j x hj => ih j x hj (inBs_all hi j x hj)
  | pt id off hid => rw [← (hp id hi).2.1]; exact .pt id off (hp id hi).1
  | mf id wd cap a hid hcap ha hb ho hs =>
    obtain ⟨cs, e, fz, h1, h2, h5⟩ := hs
    obtain ⟨cs', h3, h4⟩ := hx.shape _ _ _ _ h1
    rw [← (hp id hi).2.2] at hcap ⊢
    exact .mf id wd cap a (hp id hi).1 hcap ha (by rw [hb, (hp id hi).2.1]) ho ⟨cs', e, fz, by rw [(hp id hi).2.1]; exact h3, by omega, by omega⟩
  | ms id wd off len cap a hid hcap ha hb ho hs =>
    obtain ⟨cs, e, fz, h1, h2, h5⟩ := hs
    obtain ⟨cs', h3, h4⟩ := hx.shape _ _ _ _ h1
    exact .ms id wd off len cap a (hp id hi).1 hcap ha (by rw [hb, (hp id hi).2.1]) ho ⟨cs', e, fz, by rw [(hp id hi).2.1]; exact h3, by omega, by omega⟩
  | ep id wd k o hid => rw [← (hp id hi).2.1]; exact .ep id wd k o (hp id hi).1
  | rp cs o a vs e fz hs hI hc ho hb h1 h =>
    exact .rp cs o a vs e fz hs (hx.kept _ hI).1 ((hx.kept _ hI).2.trans hc) ho hb h1 fun k d hd => (h k d hd).mono hx.kept
  | fl wd xs a h => exact .fl wd xs a (h.mono hx.kept)
  | fl0 wd xs ad h => exact .fl0 wd xs ad h
  | junk v => exact .junk v

theorem inB_mono {p q : Nat → Bool} (hpq : ∀ id, p id = true → q id = true) : ∀ (x : V), inB p x = true → inB q x = true
  | .d _, _ => rfl
  | .ag cs, h => inBs_mono hpq cs h
  | .tp cs, h => inBs_mono hpq cs h
  | .fn _ cs, h => inBs_mono hpq cs h
  | .pt _ _, h => hpq _ h
  | .mf _ _, h => hpq _ h
  | .ms _ _ _ _, h => hpq _ h
  | .ep _ _ _ _, h => hpq _ h
  | .rp _ _, _ => rfl
  | .fl _ _, _ => rfl
  | .junk, _ => rfl
where inBs_mono {p q : Nat → Bool} (hpq : ∀ id, p id = true → q id = true) : ∀ (cs : List V), inBs p cs = true → inBs q cs = true
  | [], _ => rfl
  | x :: cs, h => by
    simp only [inBs, Bool.and_eq_true] at h ⊢
    exact ⟨inB_mono hpq x h.1, inBs_mono hpq cs h.2⟩

/-! ### two parts of memory, apart, put together -/
def joinK (c : Cf) (H hv : Heap) : Mem := fun b => c.K b ∨ ∃ id, (lk H id).own = true ∧ lk hv id = .dead ∧ b = c.bk id
def joinC (c c' : Cf) (lo hi : Nat) : Cf := ⟨c'.w, c'.I, c.K, fun id => if lo ≤ id ∧ id < hi then c'.bk id else c.bk id, fun id => if lo ≤ id ∧ id < hi then c'.ln id else c.ln id, c'.G⟩

theorem own_block {c : Cf} {N : Nat} {H : Heap} (hH : RelH c N H) {id : Nat} (ho : (lk H id).own = true) : ∃ cs e fz, c.w.heap[c.bk id]? = some (.cells cs e fz) := by
  cases hb : lk H id with
  | box cs => obtain ⟨vs, e, h1, _⟩ := hH.box id cs hb; exact ⟨_, _, _, h1⟩
  | arr w xs => obtain ⟨_, vs, e, fz, h1, _⟩ := hH.arr id w xs hb; exact ⟨_, _, _, h1⟩
  | fz w xs => rw [hb] at ho; cases ho
  | dead => rw [hb] at ho; cases ho

theorem view_heap {c : Cf} {N lo : Nat} {H hv : Heap} (hH : RelH c N H) (hview : ∀ id, lk hv id = .dead ∨ lk hv id = lk H id) (hlo : ∀ id, lk hv id ≠ .dead → id < lo)
    (hin : ∀ id cs, lk hv id = .box cs → ∀ x ∈ cs, inB (fun id => Nat.blt id lo) x = true) : RelH { c with K := joinK c H hv } lo hv := by
  have hq : ∀ id, lk hv id ≠ .dead → lk H id = lk hv id := fun id h => ((hview id).resolve_left h).symm
  have hown : ∀ id, (lk hv id).own = true → lk H id = lk hv id := fun id h => hq id (by intro h0; rw [h0] at h; cases h)
  refine ⟨hlo, ?_, ?_, ?_, ?_, ?_, hH.low, ?_, ?_, ?_⟩
  · intro id cs hb
    obtain ⟨vs, e, h1, h2, h3⟩ := hH.box id cs (by rw [hq id (by simp [hb])]; exact hb)
    refine ⟨vs, e, h1, h2, fun j x hj => ⟨?_, (h3 j x hj).2⟩⟩
    have hW : ExtW c { c with K := joinK c H hv } := ⟨fun b hb => ⟨hb, rfl⟩, fun b cs e fz h => ⟨cs, h, rfl⟩⟩
    exact (h3 j x hj).1.move hW (fun id hp => ⟨by simpa [Nat.blt_eq] using hp, rfl, rfl⟩) (hin id cs hb x (List.mem_of_getElem? hj))
  · intro id wd xs hb
    exact hH.arr id wd xs (by rw [hq id (by simp [hb])]; exact hb)
  · intro id wd xs hb
    exact hH.fz id wd xs (by rw [hq id (by simp [hb])]; exact hb)
  · intro id ho
    exact hH.own id (by rw [hown id ho]; exact ho)
  · intro id id' ho ho' hb
    exact hH.inj id id' (by rw [hown id ho]; exact ho) (by rw [hown id' ho']; exact ho') hb
  · intro id ho hk
    have ho1 : (lk H id).own = true := by rw [hown id ho]; exact ho
    rcases hk with hk | ⟨id', h1, h2, h3⟩
    · exact hH.ownK id ho1 hk
    · have := hH.inj id id' ho1 h1 h3
      subst this
      rw [h2] at ho; cases ho
  · intro b hI hk
    rcases hk with hk | ⟨id', h1, h2, h3⟩
    · exact hH.disj b hI hk
    · subst h3; exact hH.own id' h1 hI
  · intro b hk
    rcases hk with hk | ⟨id', h1, h2, h3⟩
    · exact hH.lowK b hk
    · obtain ⟨cs, e, fz, hc⟩ := own_block hH h1
      subst h3
      exact (Array.getElem?_eq_some_iff.1 hc).1

theorem Arr.same {c c' : Cf} {id wd : Nat} {xs : List D} (h : Arr c id wd xs) (hw : c'.w = c.w) (hI : c'.I = c.I) (hb : c'.bk id = c.bk id) (hl : c'.ln id = c.ln id) : Arr c' id wd xs := by
  obtain ⟨h0, vs, e, fz, h1, h2, h3, h4, h5, h6, h7⟩ := h
  exact ⟨hl.trans h0, vs, e, fz, by rw [hb, hw]; exact h1, h2, h3, h4, h5, h6, fun j k x d hj hk => by rw [hw, hI]; exact h7 j k x d hj hk⟩
theorem Arr.frame {c c' : Cf} {id wd : Nat} {xs : List D} (h : Arr c id wd xs) (hk : Kept c.w c.I c'.w c'.I) (hw : c'.w.heap[c.bk id]? = c.w.heap[c.bk id]?) (hb : c'.bk id = c.bk id) (hl : c'.ln id = c.ln id) : Arr c' id wd xs := by
  obtain ⟨h0, vs, e, fz, h1, h2, h3, h4, h5, h6, h7⟩ := h
  exact ⟨hl.trans h0, vs, e, fz, by rw [hb, hw]; exact h1, h2, h3, h4, h5, h6, fun j k x d hj hk' => (h7 j k x d hj hk').mono hk⟩

theorem join_new {c c' : Cf} {lo hi N : Nat} (hlo : lo ≤ hi) (hiN : hi ≤ N) {K' : Mem} (he : Ext { c with K := K' } lo c') {x : V} {v : Value} (h : RelV c' hi x v) : RelV (joinC c c' lo hi) N x v := by
  have hW : ExtW c' (joinC c c' lo hi) := ⟨fun b hb => ⟨hb, rfl⟩, fun b cs e fz h => ⟨cs, h, rfl⟩⟩
  refine h.move hW (fun id hp => ?_) h.inB
  have hid : id < hi := by simpa [Nat.blt_eq] using hp
  refine ⟨by omega, ?_⟩
  simp only [joinC]
  by_cases h1 : lo ≤ id
  · rw [if_pos ⟨h1, hid⟩, if_pos ⟨h1, hid⟩]; exact ⟨rfl, rfl⟩
  · rw [if_neg (fun h => h1 h.1), if_neg (fun h => h1 h.1)]; exact ⟨(he.bk id (by omega)).symm, (he.ln id (by omega)).symm⟩
theorem join_old {c c' : Cf} {lo hi N n : Nat} {K' : Mem} (hn : n ≤ N) (he : Ext { c with K := K' } lo c') {x : V} {v : Value} (h : RelV c n x v) (hi' : inB (fun id => !(Nat.ble lo id && Nat.blt id hi)) x = true) : RelV (joinC c c' lo hi) n x v := by
  have h2 : inB (fun id => !(Nat.ble lo id && Nat.blt id hi) && Nat.blt id n) x = true := by
    have h1 := h.inB
    revert h1 hi'
    clear h
    exact both x
  have hW : ExtW c (joinC c c' lo hi) := ⟨he.kept, he.shape⟩
  refine h.move hW (fun id hp => ?_) h2
  simp only [Bool.and_eq_true, Bool.not_eq_true', Bool.and_eq_false_iff, Nat.blt_eq] at hp
  refine ⟨hp.2, ?_⟩
  simp only [joinC]
  have hno : ¬ (lo ≤ id ∧ id < hi) := ?_
  · rw [if_neg hno, if_neg hno]; exact ⟨rfl, rfl⟩
  rintro ⟨h3, h4⟩
  rcases hp.1 with h5 | h5
  · rw [Nat.ble_eq_true_of_le h3] at h5; cases h5
  · have : Nat.blt id hi = true := by rw [Nat.blt_eq]; exact h4
    rw [this] at h5; cases h5
where
  both {p q : Nat → Bool} : ∀ (x : V), inB p x = true → inB q x = true → inB (fun id => p id && q id) x = true
  | .d _, _, _ => rfl
  | .ag cs, h, k => boths cs h k
  | .tp cs, h, k => boths cs h k
  | .fn _ cs, h, k => boths cs h k
  | .pt _ _, h, k => by simp only [inB] at h k ⊢; rw [h, k]; rfl
  | .mf _ _, h, k => by simp only [inB] at h k ⊢; rw [h, k]; rfl
  | .ms _ _ _ _, h, k => by simp only [inB] at h k ⊢; rw [h, k]; rfl
  | .ep _ _ _ _, h, k => by simp only [inB] at h k ⊢; rw [h, k]; rfl
  | .rp _ _, _, _ => rfl
  | .fl _ _, _, _ => rfl
  | .junk, _, _ => rfl
  boths {p q : Nat → Bool} : ∀ (cs : List V), inBs p cs = true → inBs q cs = true → inBs (fun id => p id && q id) cs = true
  | [], _, _ => rfl
  | x :: cs, h, k => by
    simp only [inBs, Bool.and_eq_true] at h k ⊢
    exact ⟨both x h.1 k.1, boths cs h.2 k.2⟩

theorem join_heap {c c' : Cf} {lo hi N : Nat} {H hv hp' H' : Heap} (hH : RelH c N H) (hlo : lo ≤ hi) (hiN : hi ≤ N)
    (he : Ext { c with K := joinK c H hv } lo c') (hH' : RelH c' hi hp')
    (hm : ∀ id, lk H' id = lk hp' id ∨ (lk hp' id = .dead ∧ lk H' id = lk H id ∧ lk hv id = .dead))
    (hr : ∀ id, lk H id ≠ .dead → ¬ (lo ≤ id ∧ id < hi))
    (hin : ∀ id cs, lk H id = .box cs → ∀ x ∈ cs, inB (fun id => !(Nat.ble lo id && Nat.blt id hi)) x = true) : RelH (joinC c c' lo hi) N H' := by
  have hK : c'.K = joinK c H hv := he.K
  have bkA : ∀ id, id < hi → (joinC c c' lo hi).bk id = c'.bk id := by
    intro id hid
    simp only [joinC]
    by_cases h1 : lo ≤ id
    · rw [if_pos ⟨h1, hid⟩]
    · rw [if_neg (fun h => h1 h.1)]; exact (he.bk id (by omega)).symm
  have bkB : ∀ id, lk H id ≠ .dead → (joinC c c' lo hi).bk id = c.bk id := by
    intro id hl
    simp only [joinC]
    rw [if_neg (hr id hl)]
  have lnA : ∀ id, id < hi → (joinC c c' lo hi).ln id = c'.ln id := by
    intro id hid
    simp only [joinC]
    by_cases h1 : lo ≤ id
    · rw [if_pos ⟨h1, hid⟩]
    · rw [if_neg (fun h => h1 h.1)]; exact (he.ln id (by omega)).symm
  have lnB : ∀ id, lk H id ≠ .dead → (joinC c c' lo hi).ln id = c.ln id := by
    intro id hl
    simp only [joinC]
    rw [if_neg (hr id hl)]
  have live : ∀ {b : Blk}, b.own = true → b ≠ .dead := by rintro b h rfl; cases h
  have kOf : ∀ id, (lk H id).own = true → lk hv id = .dead → c'.K (c.bk id) := fun id h1 h2 => by rw [hK]; exact .inr ⟨id, h1, h2, rfl⟩
  have same : ∀ id, (lk H id).own = true → lk hv id = .dead → c'.w.heap[c.bk id]? = c.w.heap[c.bk id]? := fun id h1 h2 => he.keptK _ (.inr ⟨id, h1, h2, rfl⟩)
  refine ⟨?_, ?_, ?_, ?_, ?_, ?_, hH'.low, ?_, ?_, ?_⟩
  · intro id hl
    rcases hm id with h | ⟨h1, h2, h3⟩
    · rw [h] at hl; have := hH'.lt id hl; omega
    · rw [h2] at hl; exact hH.lt id hl
  · intro id cs hb
    rcases hm id with h | ⟨h1, h2, h3⟩
    · rw [h] at hb
      obtain ⟨vs, e, g1, g2, g3⟩ := hH'.box id cs hb
      refine ⟨vs, e, by rw [bkA id (hH'.lt id (by simp [hb]))]; exact g1, g2, fun j x hj => ⟨join_new hlo hiN he (g3 j x hj).1, (g3 j x hj).2⟩⟩
    · rw [h2] at hb
      obtain ⟨vs, e, g1, g2, g3⟩ := hH.box id cs hb
      refine ⟨vs, e, ?_, g2, fun j x hj => ⟨join_old (Nat.le_refl _) he (g3 j x hj).1 (hin id cs hb x (List.mem_of_getElem? hj)), (g3 j x hj).2⟩⟩
      rw [bkB id (by simp [hb])]
      exact (same id (by rw [hb]; rfl) h3).trans g1
  · intro id wd xs hb
    rcases hm id with h | ⟨h1, h2, h3⟩
    · rw [h] at hb
      exact (hH'.arr id wd xs hb).same rfl rfl (bkA id (hH'.lt id (by simp [hb]))) (lnA id (hH'.lt id (by simp [hb])))
    · rw [h2] at hb
      exact (hH.arr id wd xs hb).frame he.kept (same id (by rw [hb]; rfl) h3) (bkB id (by simp [hb])) (lnB id (by simp [hb]))
  · intro id wd xs hb
    rcases hm id with h | ⟨h1, h2, h3⟩
    · rw [h] at hb
      obtain ⟨g1, g2⟩ := hH'.fz id wd xs hb
      exact ⟨g1.same rfl rfl (bkA id (hH'.lt id (by simp [hb]))) (lnA id (hH'.lt id (by simp [hb]))), by rw [bkA id (hH'.lt id (by simp [hb]))]; exact g2⟩
    · rw [h2] at hb
      obtain ⟨g1, g2⟩ := hH.fz id wd xs hb
      exact ⟨g1.frame he.kept (he.kept _ g2).2 (bkB id (by simp [hb])) (lnB id (by simp [hb])), by rw [bkB id (by simp [hb])]; exact (he.kept _ g2).1⟩
  · intro id ho hI
    rcases hm id with h | ⟨h1, h2, h3⟩
    · rw [h] at ho
      rw [bkA id (hH'.lt id (live ho))] at hI
      exact hH'.own id ho hI
    · rw [h2] at ho
      rw [bkB id (live ho)] at hI
      exact hH'.disj _ hI (kOf id ho h3)
  · intro id id' ho ho' hb
    rcases hm id with h | ⟨h1, h2, h3⟩ <;> rcases hm id' with h' | ⟨h1', h2', h3'⟩
    · rw [h] at ho; rw [h'] at ho'
      rw [bkA id (hH'.lt id (live ho)), bkA id' (hH'.lt id' (live ho'))] at hb
      exact hH'.inj id id' ho ho' hb
    · rw [h] at ho; rw [h2'] at ho'
      rw [bkA id (hH'.lt id (live ho)), bkB id' (live ho')] at hb
      exact absurd (by rw [hb]; exact kOf id' ho' h3') (hH'.ownK id ho)
    · rw [h2] at ho; rw [h'] at ho'
      rw [bkB id (live ho), bkA id' (hH'.lt id' (live ho'))] at hb
      exact absurd (by rw [← hb]; exact kOf id ho h3) (hH'.ownK id' ho')
    · rw [h2] at ho; rw [h2'] at ho'
      rw [bkB id (live ho), bkB id' (live ho')] at hb
      exact hH.inj id id' ho ho' hb
  · intro id ho hk
    rcases hm id with h | ⟨h1, h2, h3⟩
    · rw [h] at ho
      rw [bkA id (hH'.lt id (live ho))] at hk
      exact hH'.ownK id ho (by rw [hK]; exact .inl hk)
    · rw [h2] at ho
      rw [bkB id (live ho)] at hk
      exact hH.ownK id ho hk
  · intro b hI hk
    exact hH'.disj b hI (by rw [hK]; exact .inl hk)
  · intro b hk
    exact Nat.lt_of_lt_of_le (hH.lowK b hk) he.size
end Go.Fw
end
section
/- Regions whose order is drawn: what each operation sees, and what comes of all. By this session. -/
set_option linter.unusedVariables false
set_option linter.unusedSimpArgs false
namespace Go.Fw
variable {P : Program}

/-! ### operations only push on memory -/
mutual
theorem frz_suffix : ∀ {v : V} {hp hp' : Heap} {d : D}, frz hp v = some (d, hp') → hp <:+ hp'
  | .d x, hp, hp', d, h => by simp only [frz, Option.some.injEq, Prod.mk.injEq] at h; rw [← h.2]; exact List.suffix_refl _
  | .ag cs, hp, hp', d, h => by
    simp only [frz] at h; split at h
    · rename_i h1; injection h with h; injection h with _ h; subst h; exact frzs_suffix h1
    · cases h
  | .fn f cs, hp, hp', d, h => by
    simp only [frz] at h; split at h
    · rename_i h1; injection h with h; injection h with _ h; subst h; exact frzs_suffix h1
    · cases h
  | .ms id w off len, hp, hp', d, h => by
    simp only [frz] at h; split at h
    · cases hb : (Nat.ble (off + len) _ && _) <;> rw [hb] at h
      · cases h
      · injection h with h; injection h with _ h; subst h; exact List.suffix_cons _ _
    · cases hb : (Nat.ble (off + len) _ && _) <;> rw [hb] at h
      · cases h
      · injection h with h; injection h with _ h; subst h; exact List.suffix_refl _
    · cases h
  | .mf id w, hp, hp', d, h => by
    simp only [frz] at h; split at h
    · replace h := (cond_some h).2
      injection h with h; injection h with _ h; subst h; exact List.suffix_cons _ _
    · replace h := (cond_some h).2
      injection h with h; injection h with _ h; subst h; exact List.suffix_refl _
    · cases h
  | .fl w xs, hp, hp', d, h => by simp only [frz, Option.some.injEq, Prod.mk.injEq] at h; rw [← h.2]; exact List.suffix_refl _
  | .tp _, hp, hp', d, h => by simp [frz] at h
  | .pt _ _, hp, hp', d, h => by simp [frz] at h
  | .ep _ _ _ _, hp, hp', d, h => by simp [frz] at h
  | .rp _ _, hp, hp', d, h => by simp [frz] at h
  | .junk, hp, hp', d, h => by simp [frz] at h
theorem frzs_suffix : ∀ {vs : List V} {hp hp' : Heap} {ds : List D}, frzs hp vs = some (ds, hp') → hp <:+ hp'
  | [], hp, hp', d, h => by simp only [frzs, Option.some.injEq, Prod.mk.injEq] at h; rw [← h.2]; exact List.suffix_refl _
  | v :: vs, hp, hp', d, h => by
    simp only [frzs] at h; split at h
    · rename_i h1
      split at h
      · rename_i h2; injection h with h; injection h with _ h; subst h; exact (frz_suffix h1).trans (frzs_suffix h2)
      · cases h
    · cases h
end
theorem frzParts_suffix : ∀ {vs : List (Nat × V)} {hp hp' : Heap} {ds : List (Nat × D)}, frzParts hp vs = some (ds, hp') → hp <:+ hp'
  | [], hp, hp', d, h => by simp only [frzParts, Option.some.injEq, Prod.mk.injEq] at h; rw [← h.2]; exact List.suffix_refl _
  | (i, v) :: vs, hp, hp', d, h => by
    simp only [frzParts] at h; split at h
    · rename_i h1
      split at h
      · rename_i h2; injection h with h; injection h with _ h; subst h; exact (frz_suffix h1).trans (frzParts_suffix h2)
      · cases h
    · cases h
theorem impTop_suffix (n : Nat) (hp : Heap) (d : D) : hp <:+ (impTop n hp d).2.2 := by
  cases d <;> first | exact List.suffix_refl _ | exact List.suffix_cons _ _
theorem impTops_suffix : ∀ (ds : List D) (n : Nat) (hp : Heap), hp <:+ (impTops n hp ds).2.2
  | [], n, hp => List.suffix_refl _
  | d :: ds, n, hp => (impTop_suffix n hp d).trans (impTops_suffix ds _ _)
theorem impD_suffix (n : Nat) (hp : Heap) (d : D) : hp <:+ (impD n hp d).2.2 := by
  cases d <;> first | exact impTops_suffix _ _ _ | exact impTop_suffix _ _ _
theorem callV_suffix {h : Hs} (hc : ∀ g xs n hp, h.call g xs n hp = none) {g : FuncId} {xs : List V} {n : Nat} {hp : Heap} {r : V × Nat × Heap} (he : callV h g xs n hp = some r) : hp <:+ r.2.2 := by
  unfold callV at he
  split at he
  · rename_i ds hp' h1
    replace h1 : frzs hp xs = some (ds, hp') := by
      cases hi : h.inl g <;> rw [hi] at h1
      · exact h1
      · cases h1
    split at he
    · split at he
      · injection he with he; subst he; exact frzs_suffix h1
      · cases he
    · split at he
      · injection he with he; subst he; exact (frzs_suffix h1).trans (impD_suffix _ _ _)
      · cases he
  · split at he
    · cases he
    · rw [hc] at he; cases he
theorem calleeV_suffix {h : Hs} (hc : ∀ g xs n hp, h.call g xs n hp = none) {f : Slots} {o : Operand} {xs : List V} {n : Nat} {hp : Heap} {r : V × Nat × Heap} (he : calleeV h f o xs n hp = some r) : hp <:+ r.2.2 := by
  unfold calleeV at he
  split at he
  · exact callV_suffix hc he
  · exact callV_suffix hc he
  · cases he
theorem storeV_suffix {t : TypeId} {hp hp' : Heap} {a v : V} (he : storeV P t hp a v = some hp') : hp <:+ hp' := by
  unfold storeV at he
  replace he := (cond_some he).2
  split at he
  · split at he
    · replace he := (cond_some he).2
      injection he with he; subst he; exact List.suffix_cons _ _
    · cases he
  · split at he
    · replace he := (cond_some he).2
      split at he
      · split at he
        · injection he with he; subst he; exact List.suffix_cons _ _
        · cases he
      · cases he
    · cases he
  · cases he
theorem pure1_suffix {n : Nat} {hp : Heap} {v : Option V} {r : V × Nat × Heap} (he : pure1 n hp v = some r) : hp <:+ r.2.2 := by
  unfold pure1 at he
  split at he
  · injection he with he; subst he; exact List.suffix_refl _
  · cases he
theorem buildSliceV_suffix {t : TypeId} {len n : Nat} {hp : Heap} {ps : List (Nat × V)} {r : V × Nat × Heap} (he : buildSliceV P t len n hp ps = some r) : hp <:+ r.2.2 := by
  unfold buildSliceV at he
  split at he
  · split at he
    · split at he
      · rename_i h1
        replace he := (cond_some he).2
        split at he
        · injection he with he; subst he; exact (frzParts_suffix h1).trans (List.suffix_cons _ _)
        · cases he
      · cases he
    · cases he
  · cases he
theorem makeSliceV_suffix {t : TypeId} {l c : V} {n : Nat} {hp : Heap} {r : V × Nat × Heap} (he : makeSliceV P t l c n hp = some r) : hp <:+ r.2.2 := by
  unfold makeSliceV at he
  split at he
  · split at he
    · replace he := (cond_some he).2
      injection he with he; subst he; exact List.suffix_cons _ _
    · cases he
  · cases he
theorem appendV_suffix {t u : TypeId} {s x : V} {n : Nat} {hp : Heap} {r : V × Nat × Heap} (he : appendV P t u s x n hp = some r) : hp <:+ r.2.2 := by
  unfold appendV at he
  split at he
  · split at he
    · replace he := (cond_some he).2
      split at he
      · rename_i w ys _
        cases hn : ys.nil <;> rw [hn] at he <;> simp only [cond_true, cond_false] at he
        rotate_left
        · split at he <;> first | (injection he with he; subst he; exact List.suffix_refl _) | (cases he; done)
        · replace he := (cond_some he).2
          split at he
          · replace he := (cond_some he).2
            injection he with he; subst he; exact List.suffix_cons _ _
          · replace he := (cond_some he).2
            injection he with he; subst he; exact List.suffix_cons _ _
          · split at he
            · replace he := (cond_some he).2
              injection he with he; subst he; exact ⟨[_, _], rfl⟩
            · cases he
          · split at he
            · replace he := (cond_some he).2
              injection he with he; subst he; exact ⟨[_, _], rfl⟩
            · cases he
          · cases he
      · cases he
    · cases he
  · cases he
theorem evOp_suffix {h : Hs} (hc : ∀ g xs n hp, h.call g xs n hp = none) {o : Oper} {f : Slots} {n : Nat} {hp : Heap} {r : V × Nat × Heap} (he : evOp P h o f n hp = some r) : hp <:+ r.2.2 := by
  have hv : ∀ {v : V} {r : V × Nat × Heap}, some (v, n, hp) = some r → hp <:+ r.2.2 := by
    intro v r h; injection h with h; subst h; exact List.suffix_refl _
  unfold evOp at he
  split at he
  · exact hv he
  · exact hv he
  · split at he
    · exact hv he
    · cases he
  · exact pure1_suffix he
  · exact pure1_suffix he
  · split at he
    · revert he
      generalize strT P _ = b
      intro he
      cases b
      · simp only [cond_false] at he
        split at he
        · replace he := (cond_some he).2
          injection he with he; subst he; exact List.suffix_cons _ _
        · cases he
      · exact pure1_suffix he
    · exact pure1_suffix he
    · split at he
      · replace he := (cond_some he).2
        split at he
        · exact pure1_suffix (cond_some he).2
        · cases he
      · cases he
  · exact pure1_suffix he
  · exact pure1_suffix he
  · exact pure1_suffix he
  · exact pure1_suffix he
  · exact pure1_suffix he
  · split at he <;> first | exact hv he | (cases he; done)
  · exact pure1_suffix he
  · exact hv (cond_some he).2
  · split at he
    · injection he with he; subst he; exact List.suffix_cons _ _
    · cases he
  · replace he := (cond_some he).2
    injection he with he; subst he; exact List.suffix_cons _ _
  · exact pure1_suffix he
  · split at he
    · rename_i hs; injection he with he; subst he; exact storeV_suffix hs
    · cases he
  · exact pure1_suffix he
  · exact buildSliceV_suffix he
  · exact makeSliceV_suffix he
  · split at he
    · split at he
      · exact pure1_suffix he
      · cases he
    · split at he
      · exact appendV_suffix he
      · cases he
    · exact calleeV_suffix hc he
    · cases he
  · cases he
theorem evOper_suffix {h : Hs} (hc : ∀ g xs n hp, h.call g xs n hp = none) {all : List Oper} {o : Oper} {st st' : St} (he : evOper P h all o st = some st') : st.h <:+ st'.h := by
  have hp : ∀ (st : St) (v : V), (st.put o.dst v).h = st.h := by intro st v; cases o.dst <;> rfl
  have h1 : ∀ {st'}, step1 P h o st = some st' → st.h <:+ st'.h := by
    intro st' he
    unfold step1 at he
    split at he
    · rename_i h1
      injection he with he; subst he; rw [hp]; exact evOp_suffix hc h1
    · cases he
  unfold evOper at he
  split at he
  · exact h1 he
  · split at he
    · split at he
      · rename_i x _
        cases hb : (x == _) <;> rw [hb] at he
        · injection he with he; subst he; rw [hp]; exact List.suffix_refl _
        · exact h1 he
      · injection he with he; subst he; rw [hp]; exact List.suffix_refl _
      · cases he
    · cases he
end Go.Fw
end
section
/- Regions whose order is drawn: the lists of pushes. By this session. -/
set_option linter.unusedVariables false
set_option linter.unusedSimpArgs false
namespace Go.Fw

theorem get_append : ∀ (a b : Slots) (t : Nat), get (a ++ b) t = if t ∈ a.map Prod.fst then get a t else get b t
  | [], b, t => by simp [get]
  | (j, v) :: a, b, t => by
    rw [List.cons_append, get_cons, get_cons, get_append a b t]
    by_cases h : j = t
    · simp [h]
    · simp only [h, if_false, List.map_cons, List.mem_cons]
      have : ¬ t = j := fun h' => h h'.symm
      simp only [this, false_or]
theorem lk_append : ∀ (a b : Heap) (t : Nat), lk (a ++ b) t = if t ∈ a.map Prod.fst then lk a t else lk b t
  | [], b, t => by simp [lk]
  | (j, v) :: a, b, t => by
    rw [List.cons_append, lk_cons, lk_cons, lk_append a b t]
    by_cases h : j = t
    · simp [h]
    · simp only [h, if_false, List.map_cons, List.mem_cons]
      have : ¬ t = j := fun h' => h h'.symm
      simp only [this, false_or]
theorem lk_mem : ∀ {a : Heap} {t : Nat}, t ∈ a.map Prod.fst → (t, lk a t) ∈ a
  | (j, v) :: a, t, h => by
    rw [lk_cons]
    by_cases hj : j = t
    · subst hj; simp
    · rw [if_neg hj]
      simp only [List.map_cons, List.mem_cons] at h
      exact List.mem_cons_of_mem _ (lk_mem (h.resolve_left fun h' => hj h'.symm))
theorem lk_none : ∀ {a : Heap} {t : Nat}, t ∉ a.map Prod.fst → lk a t = .dead
  | [], t, h => rfl
  | (j, v) :: a, t, h => by
    simp only [List.map_cons, List.mem_cons, not_or] at h
    rw [lk_cons, if_neg (fun h' => h.1 h'.symm)]
    exact lk_none h.2
theorem keysBif {α : Type} (b : Bool) (l : List (Nat × α)) (t : Nat) : t ∈ (bif b then l else []).map Prod.fst ↔ b = true ∧ t ∈ l.map Prod.fst := by
  cases b <;> simp

theorem selS_keys {S : Nat → Bool} {t : Nat} : ∀ {R : List Rc} {k : Nat}, t ∈ (selS S k R).map Prod.fst ↔ ∃ j r, R[j]? = some r ∧ S (k + j) = true ∧ t ∈ r.s.map Prod.fst
  | [], k => by simp [selS]
  | r :: rs, k => by
    rw [selS, List.map_append, List.mem_append, selS_keys, keysBif]
    constructor
    · rintro (⟨j, q, h1, h2, h3⟩ | ⟨h1, h2⟩)
      · exact ⟨j + 1, q, by simpa using h1, by rw [← h2]; congr 1; omega, h3⟩
      · exact ⟨0, r, rfl, h1, h2⟩
    · rintro ⟨j, q, h1, h2, h3⟩
      cases j with
      | zero => simp only [List.getElem?_cons_zero, Option.some.injEq] at h1; subst h1; exact .inr ⟨h2, h3⟩
      | succ j => exact .inl ⟨j, q, by simpa using h1, by rw [← h2]; congr 1; omega, h3⟩
theorem selH_keys {S : Nat → Bool} {t : Nat} : ∀ {R : List Rc} {k : Nat}, t ∈ (selH S k R).map Prod.fst ↔ ∃ j r, R[j]? = some r ∧ S (k + j) = true ∧ t ∈ r.p.map Prod.fst
  | [], k => by simp [selH]
  | r :: rs, k => by
    rw [selH, List.map_append, List.mem_append, selH_keys, keysBif]
    constructor
    · rintro (⟨j, q, h1, h2, h3⟩ | ⟨h1, h2⟩)
      · exact ⟨j + 1, q, by simpa using h1, by rw [← h2]; congr 1; omega, h3⟩
      · exact ⟨0, r, rfl, h1, h2⟩
    · rintro ⟨j, q, h1, h2, h3⟩
      cases j with
      | zero => simp only [List.getElem?_cons_zero, Option.some.injEq] at h1; subst h1; exact .inr ⟨h2, h3⟩
      | succ j => exact .inl ⟨j, q, by simpa using h1, by rw [← h2]; congr 1; omega, h3⟩
theorem selH_last {S : Nat → Bool} {t : Nat} : ∀ {R : List Rc} {k j : Nat} {r : Rc}, R[j]? = some r → S (k + j) = true → t ∈ r.p.map Prod.fst →
    (∀ (i : Nat) (q : Rc), j < i → R[i]? = some q → S (k + i) = true → t ∉ q.p.map Prod.fst) → lk (selH S k R) t = lk r.p t
  | [], k, j, r, h, _, _, _ => by simp at h
  | q :: rs, k, j, r, h, hS, hk, hl => by
    rw [selH, lk_append]
    cases j with
    | zero =>
      simp only [List.getElem?_cons_zero, Option.some.injEq] at h
      subst h
      rw [if_neg]
      · have : S k = true := hS
        rw [this]; rfl
      · rw [selH_keys]
        rintro ⟨i, q', h1, h2, h3⟩
        exact hl (i + 1) q' (by omega) (by simpa using h1) (by rw [← h2]; congr 1; omega) h3
    | succ j =>
      have h' : rs[j]? = some r := by simpa using h
      have hS' : S (k + 1 + j) = true := by rw [← hS]; congr 1; omega
      rw [if_pos (selH_keys.2 ⟨j, r, h', hS', hk⟩)]
      exact selH_last h' hS' hk fun i q' h1 h2 h3 => hl (i + 1) q' (by omega) (by simpa using h2) (by rw [← h3]; congr 1; omega)
theorem selS_last {S : Nat → Bool} {t : Nat} : ∀ {R : List Rc} {k j : Nat} {r : Rc}, R[j]? = some r → S (k + j) = true → t ∈ r.s.map Prod.fst →
    (∀ (i : Nat) (q : Rc), j < i → R[i]? = some q → S (k + i) = true → t ∉ q.s.map Prod.fst) → get (selS S k R) t = get r.s t
  | [], k, j, r, h, _, _, _ => by simp at h
  | q :: rs, k, j, r, h, hS, hk, hl => by
    rw [selS, get_append]
    cases j with
    | zero =>
      simp only [List.getElem?_cons_zero, Option.some.injEq] at h
      subst h
      rw [if_neg]
      · have : S k = true := hS
        rw [this]; rfl
      · rw [selS_keys]
        rintro ⟨i, q', h1, h2, h3⟩
        exact hl (i + 1) q' (by omega) (by simpa using h1) (by rw [← h2]; congr 1; omega) h3
    | succ j =>
      have h' : rs[j]? = some r := by simpa using h
      have hS' : S (k + 1 + j) = true := by rw [← hS]; congr 1; omega
      rw [if_pos (selS_keys.2 ⟨j, r, h', hS', hk⟩)]
      exact selS_last h' hS' hk fun i q' h1 h2 h3 => hl (i + 1) q' (by omega) (by simpa using h2) (by rw [← h3]; congr 1; omega)
theorem selH_some {S : Nat → Bool} {t : Nat} : ∀ {R : List Rc} {k : Nat}, t ∈ (selH S k R).map Prod.fst → ∃ j r, R[j]? = some r ∧ S (k + j) = true ∧ t ∈ r.p.map Prod.fst ∧ lk (selH S k R) t = lk r.p t
  | [], k, h => by simp [selH] at h
  | r :: rs, k, h => by
    by_cases hi : t ∈ (selH S (k + 1) rs).map Prod.fst
    · obtain ⟨j, q, h1, h2, h3, h4⟩ := selH_some hi
      exact ⟨j + 1, q, by simpa using h1, by rw [← h2]; congr 1; omega, h3, by rw [selH, lk_append, if_pos hi]; exact h4⟩
    · rw [selH, List.map_append, List.mem_append, keysBif] at h
      obtain ⟨h1, h2⟩ := h.resolve_left hi
      exact ⟨0, r, rfl, h1, h2, by rw [selH, lk_append, if_neg hi, h1]; rfl⟩
theorem selH_congr {S T : Nat → Bool} {t : Nat} : ∀ {R : List Rc} {k : Nat} {h h' : Heap}, (∀ j r, R[j]? = some r → S (k + j) ≠ T (k + j) → t ∉ r.p.map Prod.fst) → lk h t = lk h' t → lk (selH S k R ++ h) t = lk (selH T k R ++ h') t
  | [], k, h, h', _, hh => hh
  | r :: rs, k, h, h', hST, hh => by
    rw [selH, selH, List.append_assoc, List.append_assoc]
    refine selH_congr (fun j q h1 h2 => hST (j + 1) q (by simpa using h1) (by rwa [show k + (j + 1) = k + 1 + j by omega])) ?_
    rw [lk_append, lk_append]
    by_cases hs : S k = T k
    · rw [hs, hh]
    · have hn := hST 0 r rfl hs
      rw [if_neg (fun h => hn ((keysBif _ _ _).1 h).2), if_neg (fun h => hn ((keysBif _ _ _).1 h).2)]
      exact hh
theorem selS_take {S : Nat → Bool} : ∀ {R : List Rc} {k i : Nat}, (∀ j, i ≤ j → S (k + j) = false) → selS S k (R.take i) = selS S k R
  | [], k, i, h => by simp
  | r :: rs, k, i, h => by
    cases i with
    | zero =>
      have h0 : S k = false := h 0 (by omega)
      have := selS_take (R := rs) (k := k + 1) (i := 0) (S := S) fun j _ => by rw [Nat.add_assoc]; exact h (1 + j) (by omega)
      rw [List.take_zero, selS] at this
      rw [List.take_zero, selS, selS, h0, ← this]; rfl
    | succ i =>
      rw [List.take_succ_cons, selS, selS, selS_take fun j hj => by rw [Nat.add_assoc]; exact h (1 + j) (by omega)]
theorem selH_take {S : Nat → Bool} : ∀ {R : List Rc} {k i : Nat}, (∀ j, i ≤ j → S (k + j) = false) → selH S k (R.take i) = selH S k R
  | [], k, i, h => by simp
  | r :: rs, k, i, h => by
    cases i with
    | zero =>
      have h0 : S k = false := h 0 (by omega)
      have := selH_take (R := rs) (k := k + 1) (i := 0) (S := S) fun j _ => by rw [Nat.add_assoc]; exact h (1 + j) (by omega)
      rw [List.take_zero, selH] at this
      rw [List.take_zero, selH, selH, h0, ← this]; rfl
    | succ i =>
      rw [List.take_succ_cons, selH, selH, selH_take fun j hj => by rw [Nat.add_assoc]; exact h (1 + j) (by omega)]
theorem offH_keys {S : Nat → Bool} {t : Nat} : ∀ {R : List Rc} {k : Nat}, t ∈ (offH S k R).map Prod.fst ↔ ∃ j r, R[j]? = some r ∧ S (k + j) = false ∧ t ∈ r.p.map Prod.fst
  | [], k => by simp [offH]
  | r :: rs, k => by
    rw [offH, List.map_append, List.mem_append, offH_keys]
    have : t ∈ (bif S k then [] else r.p.map fun x => (x.1, Blk.dead)).map Prod.fst ↔ S k = false ∧ t ∈ r.p.map Prod.fst := by
      cases S k <;> simp
    rw [this]
    constructor
    · rintro (⟨h1, h2⟩ | ⟨j, q, h1, h2, h3⟩)
      · exact ⟨0, r, rfl, h1, h2⟩
      · exact ⟨j + 1, q, by simpa using h1, by rw [← h2]; congr 1; omega, h3⟩
    · rintro ⟨j, q, h1, h2, h3⟩
      cases j with
      | zero => simp only [List.getElem?_cons_zero, Option.some.injEq] at h1; subst h1; exact .inl ⟨h2, h3⟩
      | succ j => exact .inr ⟨j, q, by simpa using h1, by rw [← h2]; congr 1; omega, h3⟩
theorem offH_dead {S : Nat → Bool} {t : Nat} : ∀ {R : List Rc} {k : Nat}, lk (offH S k R) t = .dead
  | [], k => rfl
  | r :: rs, k => by
    rw [offH, lk_append]
    split
    · cases S k
      · exact dead r.p
      · rfl
    · exact offH_dead
where dead {t : Nat} : ∀ (p : Heap), lk (p.map fun x => (x.1, Blk.dead)) t = .dead
  | [] => rfl
  | (i, b) :: p => by
    rw [List.map_cons, lk_cons]
    split
    · rfl
    · exact dead p
theorem okA_spec {S : Nat → Bool} {id : Nat} : ∀ {R : List Rc} {k : Nat}, okA S id k R = true → ∃ j r, R[j]? = some r ∧ S (k + j) = true ∧ r.lo ≤ id ∧ id < r.hi
  | [], k, h => by simp [okA] at h
  | r :: rs, k, h => by
    simp only [okA, Bool.or_eq_true, Bool.and_eq_true] at h
    rcases h with ⟨⟨h1, h2⟩, h3⟩ | h
    · exact ⟨0, r, rfl, h1, Nat.le_of_ble_eq_true h2, by simpa [Nat.blt_eq] using h3⟩
    · obtain ⟨j, q, h1, h2, h3⟩ := okA_spec h
      exact ⟨j + 1, q, by simpa using h1, by rw [← h2]; congr 1; omega, h3⟩
theorem hasN_mem : ∀ {l : List Nat} {id : Nat}, hasN l id = true ↔ id ∈ l
  | [], id => by simp [hasN]
  | a :: l, id => by
    simp only [hasN, Bool.or_eq_true, List.mem_cons, hasN_mem]
    constructor
    · rintro (h | h)
      · exact .inl (by simpa using (beq_iff_eq.1 h).symm)
      · exact .inr h
    · rintro (h | h)
      · exact .inl (by simp [h])
      · exact .inr h
theorem apart1_spec {q : Rc} {p : Heap} (h : apart1 q p = true) {id : Nat} (hid : id ∈ p.map Prod.fst) : (q.see = none → q.hi ≤ id ∧ id ∉ q.p.map Prod.fst) ∧ ∀ l, q.see = some l → id ∉ l := by
  obtain ⟨x, hx, rfl⟩ := List.mem_map.1 hid
  unfold apart1 at h
  split at h
  · rename_i hs
    rw [List.all_eq_true] at h
    have h1 := h x hx
    rw [Bool.and_eq_true, List.all_eq_true] at h1
    refine ⟨fun _ => ⟨Nat.le_of_ble_eq_true h1.1, fun hm => ?_⟩, fun l hl => by rw [hs] at hl; cases hl⟩
    obtain ⟨y, hy, hxy⟩ := List.mem_map.1 hm
    have h4 := h1.2 y hy
    rw [hxy] at h4
    simp at h4
  · rename_i l hs
    rw [List.all_eq_true] at h
    have h1 := h x hx
    refine ⟨fun hn => absurd (hs.symm.trans hn) (by simp), fun l' hl hm => ?_⟩
    rw [hs] at hl
    injection hl with hl
    subst hl
    rw [hasN_mem.2 hm] at h1
    cases h1
theorem apartA_spec {S : Nat → Bool} {p : Heap} : ∀ {R : List Rc} {k : Nat}, apartA S p k R = true → ∀ j r, R[j]? = some r → S (k + j) = false → apart1 r p = true
  | [], k, h, j, r, hj => by simp at hj
  | q :: rs, k, h, j, r, hj => by
    simp only [apartA, Bool.and_eq_true] at h
    intro hS
    cases j with
    | zero =>
      simp only [List.getElem?_cons_zero, Option.some.injEq] at hj
      subst hj
      have h1 := h.1
      simp only [Nat.add_zero] at hS
      rw [hS, Bool.false_or] at h1
      exact h1
    | succ j => exact apartA_spec h.2 j r (by simpa using hj) (by rw [← hS]; congr 1; omega)
theorem ancB_spec {rs : List Rc} : ∀ {es : List Edge} {A : Nat}, ancB rs es = some A →
    (∀ e ∈ es, Region.binds .any e = true → ∃ r, rs[e.on]? = some r ∧ A.testBit e.on = true ∧ ∀ k, r.A.testBit k = true → A.testBit k = true) ∧
    (∀ k, A.testBit k = true → ∃ e ∈ es, Region.binds .any e = true ∧ ∃ r, rs[e.on]? = some r ∧ (k = e.on ∨ r.A.testBit k = true))
  | [], A, h => by
    simp only [ancB, Option.some.injEq] at h
    subst h
    simp
  | e :: es, A, h => by
    simp only [ancB] at h
    split at h
    · rename_i a ha
      obtain ⟨i1, i2⟩ := ancB_spec ha
      cases hb : Region.binds .any e <;> rw [hb] at h
      · simp only [cond_false, Option.some.injEq] at h
        subst h
        refine ⟨fun e' he' hb' => ?_, fun k hk => ?_⟩
        · rcases List.mem_cons.1 he' with rfl | he'
          · rw [hb] at hb'; cases hb'
          · exact i1 e' he' hb'
        · obtain ⟨e', he', h2⟩ := i2 k hk
          exact ⟨e', List.mem_cons_of_mem _ he', h2⟩
      · simp only [cond_true] at h
        split at h
        · rename_i r hr
          injection h with h
          subst h
          have bit : ∀ k, (a ||| (r.A ||| 2 ^ e.on)).testBit k = true ↔ a.testBit k = true ∨ r.A.testBit k = true ∨ k = e.on := by
            intro k
            rw [Nat.testBit_or, Nat.testBit_or, Nat.testBit_two_pow]
            simp only [Bool.or_eq_true, decide_eq_true_eq]
            constructor
            · rintro (h | h | h)
              · exact .inl h
              · exact .inr (.inl h)
              · exact .inr (.inr h.symm)
            · rintro (h | h | h)
              · exact .inl h
              · exact .inr (.inl h)
              · exact .inr (.inr h.symm)
          refine ⟨fun e' he' hb' => ?_, fun k hk => ?_⟩
          · rcases List.mem_cons.1 he' with rfl | he'
            · exact ⟨r, hr, (bit _).2 (.inr (.inr rfl)), fun k hk => (bit k).2 (.inr (.inl hk))⟩
            · obtain ⟨q, h1, h2, h3⟩ := i1 e' he' hb'
              exact ⟨q, h1, (bit _).2 (.inl h2), fun k hk => (bit k).2 (.inl (h3 k hk))⟩
          · rcases (bit k).1 hk with h | h | h
            · obtain ⟨e', he', h2⟩ := i2 k h
              exact ⟨e', List.mem_cons_of_mem _ he', h2⟩
            · exact ⟨e, List.mem_cons_self, hb, r, hr, .inr h⟩
            · exact ⟨e, List.mem_cons_self, hb, r, hr, .inl h⟩
        · cases h
    · cases h
end Go.Fw
end
section
/- Regions whose order is drawn: any order leads where the plain evaluator says. By this session. -/
set_option linter.unusedVariables false
set_option linter.unusedSimpArgs false
namespace Go.Fw
variable {P : Program}

def noCall (h : Hs) : Hs := { h with call := fun _ _ _ _ => none }
theorem CallsOK.noCall {h : Hs} (hok : CallsOK P h) : CallsOK P (noCall h) := ⟨hok.ext, hok.pcall, fun g xs n hp r h => by cases h⟩

structure RcOK (P : Program) (h : Hs) (all : List Oper) (f0 : Slots) (n0 : Nat) (h0 : Heap) (rs : List Rc) (o : Oper) (r : Rc) : Prop where
  anc : ancB rs o.after.toList = some r.A
  st : ∃ st', evOper P (noCall h) all o ⟨selS (r.A.testBit ·) 0 rs ++ f0, r.lo, viewH (r.A.testBit ·) rs h0 r.see⟩ = some st' ∧ r = rcOf r.A o r.lo r.see (viewH (r.A.testBit ·) rs h0 r.see) st'
  ok : okRc (r.A.testBit ·) n0 rs r = true

theorem drawStep_spec {h : Hs} {all : List Oper} {f0 : Slots} {n0 : Nat} {h0 : Heap} {rs : List Rc} {n : Nat} {o : Oper} {r : Rc} (he : drawStep P h all f0 n0 h0 rs n o = some r) :
    RcOK P h all f0 n0 h0 rs o r := by
  unfold drawStep at he
  split at he
  · rename_i A hA
    simp only at he
    split at he
    · rename_i st' hst
      obtain ⟨h1, h2⟩ := cond_some he
      injection h2 with h2
      have e1 : r.A = A := by rw [← h2]; rfl
      have e2 : r.lo = n := by rw [← h2]; rfl
      have e3 : r.see = seeOf h.G (selS (A.testBit ·) 0 rs ++ f0) o := by rw [← h2]; rfl
      refine ⟨by rw [e1]; exact hA, ⟨st', by rw [e1, e2, e3]; exact hst, by rw [e1, e2, e3]; exact h2.symm⟩, by rw [e1, ← h2]; exact h1⟩
    · cases he
  · cases he

theorem drawGo_spec {h : Hs} {all : List Oper} {f0 : Slots} {n0 : Nat} {h0 : Heap} : ∀ (os : List Oper) (rs : List Rc) (n : Nat) (R : List Rc) (N : Nat), drawGo P h all f0 n0 h0 os rs n = some (R, N) →
    n ≤ N ∧ R.length = rs.length + os.length ∧ (∀ j, j < rs.length → R[j]? = rs[j]?) ∧ ∀ j o, os[j]? = some o → ∃ r, R[rs.length + j]? = some r ∧ RcOK P h all f0 n0 h0 (R.take (rs.length + j)) o r ∧ r.hi ≤ N
  | [], rs, n, R, N, he => by
    simp only [drawGo, Option.some.injEq, Prod.mk.injEq] at he
    obtain ⟨rfl, rfl⟩ := he
    exact ⟨Nat.le_refl _, by simp, fun _ _ => rfl, by simp⟩
  | o :: os, rs, n, R, N, he => by
    simp only [drawGo] at he
    split at he
    · rename_i r hr
      have hok := drawStep_spec hr
      have hlo : n = r.lo := by
        unfold drawStep at hr
        split at hr
        · simp only at hr
          split at hr
          · have := (cond_some hr).2
            injection this with this
            rw [← this]; rfl
          · cases hr
        · cases hr
      obtain ⟨i0, i1, i2, i3⟩ := drawGo_spec os (rs ++ [r]) r.hi R N he
      have hlen : (rs ++ [r]).length = rs.length + 1 := by simp
      have hr0 : R[rs.length]? = some r := by rw [i2 rs.length (by simp)]; simp
      have hpre : R.take rs.length = rs := by
        apply List.ext_getElem?
        intro j
        by_cases hj : j < rs.length
        · rw [List.getElem?_take_of_lt hj, i2 j (by simp; omega), List.getElem?_append_left hj]
        · rw [List.getElem?_take_eq_none (by omega), List.getElem?_eq_none (by omega)]
      have hk := hok.ok
      simp only [okRc, Bool.and_eq_true] at hk
      have hle : r.lo ≤ r.hi := Nat.le_of_ble_eq_true hk.1.1.1.1.1.2
      refine ⟨by omega, by rw [i1, hlen]; simp; omega, fun j hj => by rw [i2 j (by simp; omega), List.getElem?_append_left hj], fun j o' hj => ?_⟩
      cases j with
      | zero =>
        simp only [List.getElem?_cons_zero, Option.some.injEq] at hj
        subst hj
        exact ⟨r, hr0, by rw [Nat.add_zero, hpre]; exact hok, i0⟩
      | succ j =>
        obtain ⟨q, h1, h2, h3⟩ := i3 j o' (by simpa using hj)
        rw [hlen] at h1 h2
        exact ⟨q, by rw [← h1]; congr 1; omega, by rw [show rs.length + (j + 1) = rs.length + 1 + j by omega]; exact h2, h3⟩
    · cases he

/-- what surely holds of the records of a region -/
structure Recs (P : Program) (h : Hs) (all : Array Oper) (f0 : Slots) (n0 : Nat) (h0 : Heap) (R : List Rc) (N : Nat) : Prop where
  len : R.length = all.size
  n0N : n0 ≤ N
  at_ : ∀ i o, all[i]? = some o → ∃ r, R[i]? = some r ∧ RcOK P h all.toList f0 n0 h0 (R.take i) o r ∧ r.hi ≤ N
  hlt : ∀ id, lk h0 id ≠ .dead → id < n0
  hbox : ∀ id cs, lk h0 id = .box cs → ∀ x ∈ cs, inB (fun id => Nat.blt id n0) x = true

section
variable {h : Hs} {all : Array Oper} {f0 : Slots} {n0 : Nat} {h0 : Heap} {R : List Rc} {N : Nat} (hR : Recs P h all f0 n0 h0 R N)
include hR

theorem Recs.of {i : Nat} {r : Rc} (hr : R[i]? = some r) : ∃ o, all[i]? = some o ∧ RcOK P h all.toList f0 n0 h0 (R.take i) o r ∧ r.hi ≤ N := by
  have hi : i < all.size := by rw [← hR.len]; exact (List.getElem?_eq_some_iff.1 hr).1
  obtain ⟨q, h1, h2, h3⟩ := hR.at_ i all[i] (Array.getElem?_eq_getElem hi)
  rw [hr] at h1
  injection h1 with h1
  subst h1
  exact ⟨_, Array.getElem?_eq_getElem hi, h2, h3⟩

theorem Recs.bit : ∀ (i : Nat) (r : Rc), R[i]? = some r → ∀ k, r.A.testBit k = true → k < i ∧ ∃ q, R[k]? = some q ∧ ∀ l, q.A.testBit l = true → r.A.testBit l = true := by
  intro i
  induction i using Nat.strongRecOn with
  | _ i ih =>
    intro r hr k hk
    obtain ⟨o, ho, hok, _⟩ := hR.of hr
    obtain ⟨a1, a2⟩ := ancB_spec hok.anc
    obtain ⟨e, he, hb, q, hq, hkq⟩ := a2 k hk
    have hei : e.on < i := by
      have := (List.getElem?_eq_some_iff.1 hq).1
      rw [List.length_take] at this; omega
    rw [List.getElem?_take_of_lt hei] at hq
    obtain ⟨q', hq', _, hsub⟩ := a1 e he hb
    rw [List.getElem?_take_of_lt hei, hq] at hq'
    injection hq' with hq'
    subst hq'
    rcases hkq with rfl | hkq
    · exact ⟨hei, q, hq, hsub⟩
    · obtain ⟨h1, p, h2, h3⟩ := ih e.on hei q hq k hkq
      exact ⟨by omega, p, h2, fun l hl => hsub l (h3 l hl)⟩

theorem Recs.facts {i : Nat} {r : Rc} (hr : R[i]? = some r) : n0 ≤ r.lo ∧ r.lo ≤ r.hi ∧ r.hi ≤ N ∧ (∀ j q, j < i → R[j]? = some q → q.hi ≤ r.lo ∧ ∀ t, t ∈ q.s.map Prod.fst → t ∉ r.s.map Prod.fst) ∧
    (∀ l, r.see = some l → r.p = []) ∧ (∀ j q, j < i → R[j]? = some q → r.A.testBit j = false → apart1 q r.p = true) := by
  obtain ⟨o, ho, hok, hN⟩ := hR.of hr
  have hk := hok.ok
  simp only [okRc, Bool.and_eq_true] at hk
  obtain ⟨⟨⟨⟨⟨⟨k1, k2⟩, k3⟩, k4⟩, k5⟩, k6⟩, k7⟩ := hk
  have mem : ∀ j q, j < i → R[j]? = some q → (R.take i)[j]? = some q := fun j q hj hq => by rw [List.getElem?_take_of_lt hj]; exact hq
  refine ⟨Nat.le_of_ble_eq_true k1, Nat.le_of_ble_eq_true k2, hN, fun j q hj hq => ?_, fun l hm => ?_, fun j q hj hq hA => ?_⟩
  · rw [List.all_eq_true] at k3
    have := k3 q (List.mem_of_getElem? (mem j q hj hq))
    rw [Bool.and_eq_true] at this
    refine ⟨Nat.le_of_ble_eq_true this.1, fun t ht ht' => ?_⟩
    obtain ⟨x, hx, rfl⟩ := List.mem_map.1 ht
    obtain ⟨y, hy, hxy⟩ := List.mem_map.1 ht'
    have h2 := this.2
    rw [List.all_eq_true] at h2
    have h3 := h2 x hx
    rw [List.all_eq_true] at h3
    have h4 := h3 y hy
    rw [hxy] at h4
    simp at h4
  · rw [hm] at k4
    simp only [Option.isNone_some, Bool.false_or, Bool.and_eq_true] at k4
    exact List.isEmpty_iff.1 k4.1
  · exact apartA_spec k5 j q (mem j q hj hq) (by simpa using hA)

/-- the numbers that the executed ones give out -/
def OkId (R : List Rc) (n0 : Nat) (S : Nat → Bool) (id : Nat) : Prop := id < n0 ∨ ∃ k q, R[k]? = some q ∧ S k = true ∧ q.lo ≤ id ∧ id < q.hi

omit hR in
theorem Recs.ids {i : Nat} {r : Rc} (hr : R[i]? = some r) {S : Nat → Bool} (hi : S i = true) (hS : ∀ k, r.A.testBit k = true → S k = true) :
    ∀ id, (Nat.blt id n0 || Nat.ble r.lo id && Nat.blt id r.hi || okA (r.A.testBit ·) id 0 (R.take i)) = true → OkId R n0 S id := by
  intro id hid
  simp only [Bool.or_eq_true, Bool.and_eq_true] at hid
  rcases hid with (h1 | ⟨h1, h2⟩) | h1
  · exact .inl (by simpa [Nat.blt_eq] using h1)
  · exact .inr ⟨i, r, hr, hi, Nat.le_of_ble_eq_true h1, by simpa [Nat.blt_eq] using h2⟩
  · obtain ⟨j, q, g1, g2, g3, g4⟩ := okA_spec h1
    have hj : j < i := by
      have := (List.getElem?_eq_some_iff.1 g1).1
      rw [List.length_take] at this; omega
    rw [List.getElem?_take_of_lt hj] at g1
    exact .inr ⟨j, q, g1, hS j (by simpa using g2), g3, g4⟩

open Classical in
theorem Recs.heap {S : Nat → Bool} (hS : ∀ i r, R[i]? = some r → S i = true → ∀ k, r.A.testBit k = true → S k = true) {id : Nat} (hl : lk (selH S 0 R ++ h0) id ≠ .dead) :
    OkId R n0 S id ∧ ∀ cs, lk (selH S 0 R ++ h0) id = .box cs → ∀ x ∈ cs, inB (fun id => decide (OkId R n0 S id)) x = true := by
  rw [lk_append] at hl ⊢
  by_cases hk : id ∈ (selH S 0 R).map Prod.fst
  · rw [if_pos hk] at hl
    rw [if_pos hk]
    obtain ⟨j, r, h1, h2, h3, h4⟩ := selH_some hk
    rw [Nat.zero_add] at h2
    rw [h4]
    obtain ⟨o, ho, hok, _⟩ := hR.of h1
    have hk := hok.ok
    simp only [okRc, Bool.and_eq_true] at hk
    have h7 := hk.2
    rw [List.all_eq_true] at h7
    have h8 := h7 _ (lk_mem h3)
    rw [Bool.and_eq_true] at h8
    have ids := Recs.ids (n0 := n0) h1 h2 (hS j r h1 h2)
    refine ⟨ids _ h8.1, fun cs hcs x hx => ?_⟩
    have h9 := h8.2
    simp only [hcs, inBk] at h9
    obtain ⟨l, hl1⟩ := List.getElem?_of_mem hx
    exact inB_mono (fun id hid => by simpa using ids id hid) x (inBs_all h9 l x hl1)
  · rw [if_neg hk] at hl
    rw [if_neg hk]
    refine ⟨.inl (hR.hlt id hl), fun cs hcs x hx => ?_⟩
    exact inB_mono (fun id hid => decide_eq_true (show OkId R n0 S id from Or.inl (by simpa [Nat.blt_eq] using hid))) x (hR.hbox id cs hcs x hx)

/-- what an operation sees of memory is there, or it sees nothing -/
theorem Recs.view {i : Nat} {r : Rc} (hr : R[i]? = some r) {S : Nat → Bool} (hS : ∀ i r, R[i]? = some r → S i = true → ∀ k, r.A.testBit k = true → S k = true)
    (hi : S i = false) (hA : ∀ k, r.A.testBit k = true → S k = true) (id : Nat) :
    (lk (viewH (r.A.testBit ·) (R.take i) h0 r.see) id = .dead ∨ lk (viewH (r.A.testBit ·) (R.take i) h0 r.see) id = lk (selH S 0 R ++ h0) id) ∧
    (lk (viewH (r.A.testBit ·) (R.take i) h0 r.see) id ≠ .dead → id < r.lo ∧ ∀ cs, lk (viewH (r.A.testBit ·) (R.take i) h0 r.see) id = .box cs → ∀ x ∈ cs, inB (fun id => Nat.blt id r.lo) x = true) := by
  have full : (∀ l, r.see = some l → id ∈ l) → (lk (offH (r.A.testBit ·) 0 (R.take i) ++ (selH (r.A.testBit ·) 0 (R.take i) ++ h0)) id = .dead ∨ lk (offH (r.A.testBit ·) 0 (R.take i) ++ (selH (r.A.testBit ·) 0 (R.take i) ++ h0)) id = lk (selH S 0 R ++ h0) id) ∧
      (lk (offH (r.A.testBit ·) 0 (R.take i) ++ (selH (r.A.testBit ·) 0 (R.take i) ++ h0)) id ≠ .dead → id < r.lo ∧ ∀ cs, lk (offH (r.A.testBit ·) 0 (R.take i) ++ (selH (r.A.testBit ·) 0 (R.take i) ++ h0)) id = .box cs → ∀ x ∈ cs, inB (fun id => Nat.blt id r.lo) x = true) := by
    intro hsee
    rw [lk_append]
    by_cases hk : id ∈ (offH (r.A.testBit ·) 0 (R.take i)).map Prod.fst
    · rw [if_pos hk, offH_dead]
      exact ⟨.inl rfl, fun h => absurd rfl h⟩
    · rw [if_neg hk]
      have hAi : ∀ j, i ≤ j → (r.A.testBit ·) (0 + j) = false := by
        intro j hj
        rw [Nat.zero_add]
        cases hb : r.A.testBit j
        · exact hb
        · have := (hR.bit i r hr j hb).1; omega
      rw [selH_take hAi]
      have hcl : ∀ j q, R[j]? = some q → (r.A.testBit ·) j = true → ∀ k, q.A.testBit k = true → (r.A.testBit ·) k = true := by
        intro j q hq hj k hk
        obtain ⟨_, q', h2, h3⟩ := hR.bit i r hr j hj
        rw [hq] at h2; injection h2 with h2; subst h2
        exact h3 k hk
      have lows : ∀ id, OkId R n0 (r.A.testBit ·) id → id < r.lo := by
        rintro id (h1 | ⟨j, q, h1, h2, h3, h4⟩)
        · have := (hR.facts hr).1; omega
        · have h5 := (hR.bit i r hr j h2).1
          have := ((hR.facts hr).2.2.2.1 j q h5 h1).1
          omega
      by_cases hd : lk (selH (r.A.testBit ·) 0 R ++ h0) id = .dead
      · exact ⟨.inl hd, fun h => absurd hd h⟩
      · obtain ⟨h1, h2⟩ := hR.heap hcl hd
        refine ⟨.inr ?_, fun _ => ⟨lows id h1, fun cs hcs x hx => ?_⟩⟩
        · refine selH_congr (fun j q hq hne hmemq => ?_) rfl
          rw [Nat.zero_add] at hne
          have hSj : S j = true ∧ r.A.testBit j = false := by
            cases hb : r.A.testBit j
            · cases hs : S j
              · rw [hb, hs] at hne; exact absurd rfl hne
              · exact ⟨rfl, rfl⟩
            · rw [hA j hb] at hne
              exact absurd hb (by simpa using hne)
          have hji : j ≠ i := by rintro rfl; rw [hi] at hSj; cases hSj.1
          rcases Nat.lt_or_ge j i with hlt | hge
          · exact hk (offH_keys.2 ⟨j, q, by rw [List.getElem?_take_of_lt hlt]; exact hq, by rw [Nat.zero_add]; exact hSj.2, hmemq⟩)
          · have hlt : i < j := by omega
            have hnA : q.A.testBit i = false := by
              cases hb : q.A.testBit i
              · rfl
              · have := hS j q hq hSj.1 i hb
                rw [hi] at this; cases this
            obtain ⟨p1, p2⟩ := apart1_spec ((hR.facts hq).2.2.2.2.2 i r hlt hr hnA) hmemq
            cases hsr : r.see with
            | none =>
              have := (p1 hsr).1
              have h3 := lows id h1
              have := (hR.facts hr).2.1
              omega
            | some l => exact p2 l hsr (hsee l hsr)
        · exact inB_mono (fun id hid => by simpa [Nat.blt_eq] using lows id (by simpa using hid)) x (h2 cs hcs x hx)
  cases hsee : r.see with
  | none =>
    simp only [viewH]
    exact full (fun l hl => by rw [hsee] at hl; cases hl)
  | some l =>
    simp only [viewH]
    have key : ∀ (l : List Nat) (H : Heap), (id ∈ l → lk (l.map fun id => (id, lk H id)) id = lk H id) ∧ (id ∉ l → lk (l.map fun id => (id, lk H id)) id = .dead) := by
      intro l H
      induction l with
      | nil => exact ⟨fun h => by simp at h, fun _ => rfl⟩
      | cons a l ih =>
        rw [List.map_cons, lk_cons]
        by_cases ha : a = id
        · subst ha; rw [if_pos rfl]; exact ⟨fun _ => rfl, fun h => absurd List.mem_cons_self h⟩
        · rw [if_neg ha]
          exact ⟨fun h => ih.1 ((List.mem_cons.1 h).resolve_left fun h' => ha h'.symm), fun h => ih.2 fun h' => h (List.mem_cons_of_mem _ h')⟩
    by_cases hin : id ∈ l
    · rw [(key l _).1 hin]
      exact full (fun l' hl => by rw [hsee] at hl; injection hl with hl; subst hl; exact hin)
    · rw [(key l _).2 hin]
      exact ⟨.inl rfl, fun h => absurd rfl h⟩
end
end Go.Fw
end
section
/- Regions whose order is drawn: step by step, and all of it. By this session. -/
set_option linter.unusedVariables false
set_option linter.unusedSimpArgs false
namespace Go.Fw
variable {P : Program}

theorem get_junked : ∀ (all : List Oper) (f : Slots) (t : Nat), get (junked all ++ f) t = .junk ∨ (get (junked all ++ f) t = get f t ∧ ∀ o ∈ all, o.dst ≠ some t)
  | [], f, t => .inr ⟨rfl, by simp⟩
  | o :: os, f, t => by
    have ih := get_junked os f t
    cases hd : o.dst with
    | none =>
      have he : junked (o :: os) ++ f = junked os ++ f := by simp [junked, hd]
      rw [he]
      rcases ih with ih | ⟨h1, h2⟩
      · exact .inl ih
      · refine .inr ⟨h1, fun o' ho' => ?_⟩
        rcases List.mem_cons.1 ho' with rfl | ho'
        · rw [hd]; simp
        · exact h2 o' ho'
    | some d =>
      have he : junked (o :: os) ++ f = (d, V.junk) :: (junked os ++ f) := by simp [junked, hd]
      rw [he, get_cons]
      by_cases hdt : d = t
      · rw [if_pos hdt]; exact .inl rfl
      · rw [if_neg hdt]
        rcases ih with ih | ⟨h1, h2⟩
        · exact .inl ih
        · refine .inr ⟨h1, fun o' ho' => ?_⟩
          rcases List.mem_cons.1 ho' with rfl | ho'
          · rw [hd]; simpa using hdt
          · exact h2 o' ho'

structure DInv (h : Hs) (all : Array Oper) (f : Slots) (n0 : Nat) (h0 : Heap) (R : List Rc) (N nt : Nat) (c0 : Cf) (S : Nat → Bool) (c : Cf) (a : Act) : Prop where
  cl : ∀ i r, R[i]? = some r → S i = true → ∀ k, r.A.testBit k = true → S k = true
  glob : Glob c
  g : c.G = h.G
  size : a.tmps.size = nt
  defers : a.defers = []
  ext : Ext c0 n0 c
  base : ∀ t, (∀ o ∈ all.toList, o.dst ≠ some t) → RelV c n0 (get f t) (a.tmps.getD t undef)
  rec_ : ∀ i r, R[i]? = some r → S i = true → ∀ x ∈ r.s, RelV c N x.2 (a.tmps.getD x.1 undef)
  heap : RelH c N (selH S 0 R ++ h0)

theorem put_get (a : Act) (d : Nat) (v : Value) (t : Nat) (h : d ≠ t) : (a.put (some d) v).tmps.getD t undef = a.tmps.getD t undef := by
  simp [Act.put, Array.getD_eq_getD_getElem?, h]
theorem suffix_take {α : Type} {a b : List α} (h : a <:+ b) : b = b.take (b.length - a.length) ++ a := by
  obtain ⟨t, rfl⟩ := h
  simp

theorem rec_keys {A : Nat} {o : Oper} {n : Nat} {see : Option (List Nat)} {hv : Heap} {st : St} : ∀ t, t ∈ (rcOf A o n see hv st).s.map Prod.fst ↔ o.dst = some t := by
  intro t
  simp only [rcOf, putOf]
  cases o.dst with
  | none => simp
  | some d => simp [eq_comm]

theorem draw_step {h : Hs} (hok : CallsOK P h) {all : Array Oper} {f : Slots} {n0 : Nat} {h0 : Heap} {R : List Rc} {N nt : Nat} {c0 : Cf} (hR : Recs P h all (junked all.toList ++ f) n0 h0 R N)
    (hall : ∀ o ∈ all.toList, ∀ d, o.dst = some d → d < nt) {S : Nat → Bool} {c : Cf} {a : Act} (inv : DInv h all f n0 h0 R N nt c0 S c a) {i : Nat} {o : Oper} (ho : all[i]? = some o) (hi : S i = false)
    (hedge : ∀ e ∈ o.after.toList, Region.binds .any e = true → S e.on = true) {K : Act → World → Prop} {Q : Exit → Act → World → Prop}
    (hK : ∀ a' c', DInv h all f n0 h0 R N nt c0 (fun j => S j || j == i) c' a' → K a' c'.w) : wpOp P all Q i K a c.w := by
  obtain ⟨r, hr, hrc, hN⟩ := hR.at_ i o ho
  obtain ⟨st', hev, hrd⟩ := hrc.st
  obtain ⟨f1, f2, f3, f4, f5, f6⟩ := hR.facts hr
  obtain ⟨a1, a2⟩ := ancB_spec hrc.anc
  have hA : ∀ k, r.A.testBit k = true → S k = true := by
    intro k hk
    obtain ⟨e, he, hb, q, hq, hkq⟩ := a2 k hk
    have hs := hedge e he hb
    rcases hkq with rfl | hkq
    · exact hs
    · have hei : e.on < i := by
        have := (List.getElem?_eq_some_iff.1 hq).1
        rw [List.length_take] at this; omega
      rw [List.getElem?_take_of_lt hei] at hq
      exact inv.cl e.on q hq hs k hkq
  have hAi : ∀ j, i ≤ j → (r.A.testBit ·) (0 + j) = false := by
    intro j hj
    rw [Nat.zero_add]
    cases hb : r.A.testBit j
    · exact hb
    · have := (hR.bit i r hr j hb).1; omega
  have hkey : ∀ t, t ∈ r.s.map Prod.fst ↔ o.dst = some t := by rw [hrd]; exact rec_keys
  have view := hR.view hr inv.cl hi hA
  -- the slots that it sees
  have hs : RelS { c with K := joinK c (selH S 0 R ++ h0) (viewH (r.A.testBit ·) (R.take i) h0 r.see) } r.lo (selS (r.A.testBit ·) 0 (R.take i) ++ (junked all.toList ++ f)) a.tmps := by
    have hW : ExtW c { c with K := joinK c (selH S 0 R ++ h0) (viewH (r.A.testBit ·) (R.take i) h0 r.see) } := ⟨fun b hb => ⟨hb, rfl⟩, fun b cs e fz h => ⟨cs, h, rfl⟩⟩
    refine ⟨inv.glob, fun t => ?_⟩
    rw [selS_take hAi, get_append]
    by_cases hk : t ∈ (selS (r.A.testBit ·) 0 R).map Prod.fst
    · rw [if_pos hk]
      obtain ⟨j, q, h1, h2, h3⟩ := selS_keys.1 hk
      rw [Nat.zero_add] at h2
      have hji := (hR.bit i r hr j h2).1
      rw [selS_last h1 (by rw [Nat.zero_add]; exact h2) h3 (fun j' q' hj' hq' _ ht' => ((hR.facts hq').2.2.2.1 j q hj' h1).2 t h3 ht')]
      obtain ⟨x, hx, rfl⟩ := List.mem_map.1 h3
      have hxs : get q.s x.1 = x.2 := by
        obtain ⟨o', ho', hrc', _⟩ := hR.of h1
        obtain ⟨st'', _, hq''⟩ := hrc'.st
        rw [hq''] at hx ⊢
        simp only [rcOf, putOf] at hx ⊢
        cases hd : o'.dst with
        | none => rw [hd] at hx; simp at hx
        | some d =>
          rw [hd] at hx
          simp only [List.mem_singleton] at hx
          subst hx
          simp [get]
      rw [hxs]
      obtain ⟨o', ho', hrc', _⟩ := hR.of h1
      have hk' := hrc'.ok
      simp only [okRc, Bool.and_eq_true] at hk'
      have h6 := hk'.1.2
      rw [List.all_eq_true] at h6
      refine (inv.rec_ j q h1 (hA j h2) x hx).move hW (fun id hp => ⟨?_, rfl, rfl⟩) (h6 x hx)
      have hqA : ∀ k, q.A.testBit k = true → (fun k => r.A.testBit k) k = true := by
        obtain ⟨_, q', g2, g3⟩ := hR.bit i r hr j h2
        rw [h1] at g2; injection g2 with g2; subst g2
        exact g3
      rcases Recs.ids (n0 := n0) h1 (S := fun k => r.A.testBit k) h2 hqA id hp with h5 | ⟨k, p, g1, g2, g3, g4⟩
      · omega
      · have := (f4 k p (hR.bit i r hr k g2).1 g1).1; omega
    · rw [if_neg hk]
      rcases get_junked all.toList f t with h1 | ⟨h1, h2⟩
      · rw [h1]; exact .junk _
      · rw [h1]
        refine (inv.base t h2).move hW (fun id hp => ⟨?_, rfl, rfl⟩) (inv.base t h2).inB
        have : id < n0 := by simpa [Nat.blt_eq] using hp
        omega
  have hH := view_heap inv.heap (fun id => (view id).1) (fun id hl => ((view id).2 hl).1) (fun id cs hb x hx => ((view id).2 (by simp [hb])).2 cs hb x hx)
  have hsr : SR h.G nt { c with K := joinK c (selH S 0 R ++ h0) (viewH (r.A.testBit ·) (R.take i) h0 r.see) } ⟨selS (r.A.testBit ·) 0 (R.take i) ++ (junked all.toList ++ f), r.lo, viewH (r.A.testBit ·) (R.take i) h0 r.see⟩ a :=
    ⟨inv.g, hs, hH, inv.size, inv.defers⟩
  unfold wpOp
  simp only [ho]
  refine evOper_wp hok.noCall hall (List.mem_of_getElem? (by rw [Array.getElem?_toList]; exact ho)) hev hsr fun v c' hx hn hsr' => ?_
  have hsuf := suffix_take (evOper_suffix (fun _ _ _ _ => rfl) hev)
  have hrp : r.p = st'.h.take (st'.h.length - (viewH (r.A.testBit ·) (R.take i) h0 r.see).length) := by
    have := congrArg Rc.p hrd
    exact this
  have hrs : r.s = putOf o.dst st'.f := by
    have := congrArg Rc.s hrd
    exact this
  have hrhi : r.hi = st'.n := by
    have := congrArg Rc.hi hrd
    exact this
  have hsuf' : st'.h = r.p ++ viewH (r.A.testBit ·) (R.take i) h0 r.see := by rw [hrp]; exact hsuf
  -- numbers of the others
  have rng : ∀ id, OkId R n0 S id → ¬ (r.lo ≤ id ∧ id < r.hi) := by
    rintro id (h1 | ⟨k, q, h1, h2, h3, h4⟩) ⟨h5, h6⟩
    · omega
    · rcases Nat.lt_trichotomy k i with hk | hk | hk
      · have := (f4 k q hk h1).1; omega
      · subst hk; rw [hi] at h2; cases h2
      · have := ((hR.facts h1).2.2.2.1 i r hk hr).1; omega
  have rngB : ∀ id, OkId R n0 S id → (!(Nat.ble r.lo id && Nat.blt id r.hi)) = true := by
    intro id hid
    cases hb : (Nat.ble r.lo id && Nat.blt id r.hi)
    · rfl
    · rw [Bool.and_eq_true] at hb
      exact absurd ⟨Nat.le_of_ble_eq_true hb.1, by simpa [Nat.blt_eq] using hb.2⟩ (rng id hid)
  have hx' : Ext { c with K := joinK c (selH S 0 R ++ h0) (viewH (r.A.testBit ·) (R.take i) h0 r.see) } r.lo c' := hx
  have hle : r.lo ≤ st'.n := hn
  have hext : Ext c0 n0 (joinC c c' r.lo r.hi) := by
    refine ⟨Nat.le_trans inv.ext.size hx'.size, fun b hb => ⟨(hx'.kept b (inv.ext.kept b hb).1).1, ((hx'.kept b (inv.ext.kept b hb).1).2).trans (inv.ext.kept b hb).2⟩, fun b cs e fz hc => ?_, fun id hid => ?_, fun id hid => ?_, inv.ext.K, hx'.G.trans inv.ext.G, fun b hb => ?_, hx'.os.trans inv.ext.os, hx'.tape.trans inv.ext.tape, hx'.output.trans inv.ext.output⟩
    · obtain ⟨cs1, h1, h2⟩ := inv.ext.shape b cs e fz hc
      obtain ⟨cs2, h3, h4⟩ := hx'.shape b cs1 e fz h1
      exact ⟨cs2, h3, h4.trans h2⟩
    · simp only [joinC]
      rw [if_neg (by omega)]
      exact inv.ext.bk id hid
    · simp only [joinC]
      rw [if_neg (by omega)]
      exact inv.ext.ln id hid
    · exact (hx'.keptK b (.inl (by rw [inv.ext.K]; exact hb))).trans (inv.ext.keptK b hb)
  -- what it makes of memory
  have hnew : ∀ id, id ∈ r.p.map Prod.fst → lk (selH (fun j => S j || j == i) 0 R ++ h0) id = lk r.p id := by
    intro id hid
    rw [lk_append, if_pos (selH_keys.2 ⟨i, r, hr, by simp, hid⟩)]
    refine selH_last hr (by simp) hid fun j q hj hq hSj hmem' => ?_
    have hSj' : S j = true := by
      rw [Nat.zero_add] at hSj
      rcases Bool.or_eq_true _ _ ▸ hSj with h1 | h1
      · exact h1
      · have : j = i := by simpa using h1
        omega
    have hnA : q.A.testBit i = false := by
      cases hb : q.A.testBit i
      · rfl
      · have := inv.cl j q hq hSj' i hb
        rw [hi] at this; cases this
    have hm : r.see = none := by
      cases hm : r.see with
      | none => rfl
      | some l => rw [f5 l hm] at hid; simp at hid
    exact ((apart1_spec ((hR.facts hq).2.2.2.2.2 i r hj hr hnA) hmem').1 hm).2 hid
  have hsame : ∀ id, id ∉ r.p.map Prod.fst → lk (selH (fun j => S j || j == i) 0 R ++ h0) id = lk (selH S 0 R ++ h0) id := by
    intro id hid
    refine selH_congr (fun j q hq hne hm => ?_) rfl
    rw [Nat.zero_add] at hne
    by_cases hj : j = i
    · subst hj
      rw [hr] at hq; injection hq with hq; subst hq
      exact hid hm
    · have : (j == i) = false := by simpa using hj
      simp [this] at hne
  have hheap : RelH (joinC c c' r.lo r.hi) N (selH (fun j => S j || j == i) 0 R ++ h0) := by
    refine join_heap inv.heap f2 f3 hx' (hp' := st'.h) (by rw [hrhi]; exact hsr'.h) (fun id => ?_) (fun id hl => rng id (hR.heap inv.cl hl).1) (fun id cs hb x hx => ?_)
    · by_cases hid : id ∈ r.p.map Prod.fst
      · refine .inl ?_
        rw [hnew id hid, hsuf', lk_append, if_pos hid]
      · have e1 : lk st'.h id = lk (viewH (r.A.testBit ·) (R.take i) h0 r.see) id := by rw [hsuf', lk_append, if_neg hid]
        rw [hsame id hid, e1]
        rcases (view id).1 with h1 | h1
        · exact .inr ⟨h1, rfl, h1⟩
        · exact .inl h1.symm
    · exact inB_mono (fun id hid => rngB id (@of_decide_eq_true _ (Classical.propDecidable _) hid)) x ((hR.heap inv.cl (by simp [hb])).2 cs hb x hx)
  refine hK _ (joinC c c' r.lo r.hi) ⟨?_, ?_, ?_, ?_, ?_, hext, ?_, ?_, hheap⟩
  · intro j q hq hj k hk
    rcases Bool.or_eq_true _ _ ▸ hj with h1 | h1
    · simp only [inv.cl j q hq h1 k hk, Bool.true_or]
    · have : j = i := by simpa using h1
      subst this
      rw [hr] at hq; injection hq with hq; subst hq
      simp only [hA k hk, Bool.true_or]
  · intro g cs hg
    exact hsr'.s.glob g cs hg
  · exact hsr'.g
  · rw [put_size]; exact inv.size
  · rw [put_defers]; exact inv.defers
  · intro t ht
    have hne : o.dst ≠ some t := ht o (List.mem_of_getElem? (by rw [Array.getElem?_toList]; exact ho))
    have e : (a.put o.dst v).tmps.getD t undef = a.tmps.getD t undef := by
      cases hd : o.dst with
      | none => rfl
      | some d => exact put_get a d v t (by rintro rfl; exact hne hd)
    rw [e]
    have hb := inv.base t ht
    exact join_old hR.n0N hx' hb (inB_mono (fun id hid => rngB id (.inl (by simpa [Nat.blt_eq] using hid))) _ hb.inB)
  · intro j q hq hj x hx
    by_cases hji : j = i
    · subst hji
      rw [hr] at hq; injection hq with hq; subst hq
      rw [hrs] at hx
      unfold putOf at hx
      cases hd : o.dst with
      | none => rw [hd] at hx; simp at hx
      | some d =>
        rw [hd] at hx
        simp only [List.mem_singleton] at hx
        subst hx
        have hg := hsr'.s.get d
        rw [hd, ← hrhi] at hg
        exact join_new f2 f3 hx' hg
    · have hSj : S j = true := by
        rcases Bool.or_eq_true _ _ ▸ hj with h1 | h1
        · exact h1
        · exact absurd (by simpa using h1) hji
      have hxk : x.1 ∈ q.s.map Prod.fst := List.mem_map.2 ⟨x, hx, rfl⟩
      have e : (a.put o.dst v).tmps.getD x.1 undef = a.tmps.getD x.1 undef := by
        cases hd : o.dst with
        | none => rfl
        | some d =>
          refine put_get a d v _ ?_
          rintro rfl
          have hxr := (hkey x.1).2 hd
          rcases Nat.lt_trichotomy j i with hk | hk | hk
          · exact (f4 j q hk hq).2 _ hxk hxr
          · exact hji hk
          · exact ((hR.facts hq).2.2.2.1 i r hk hr).2 _ hxr hxk
      rw [e]
      have hb := inv.rec_ j q hq hSj x hx
      obtain ⟨o', ho', hrc', _⟩ := hR.of hq
      have hk' := hrc'.ok
      simp only [okRc, Bool.and_eq_true] at hk'
      have h6 := hk'.1.2
      rw [List.all_eq_true] at h6
      exact join_old (Nat.le_refl _) hx' hb (inB_mono (fun id hid => rngB id (Recs.ids (n0 := n0) hq hSj (inv.cl j q hq hSj) id hid)) _ (h6 x hx))

theorem DInv.setS {h : Hs} {all : Array Oper} {f : Slots} {n0 : Nat} {h0 : Heap} {R : List Rc} {N nt : Nat} {c0 c : Cf} {S T : Nat → Bool} {a : Act} (inv : DInv h all f n0 h0 R N nt c0 S c a) (hST : S = T) :
    DInv h all f n0 h0 R N nt c0 T c a := hST ▸ inv

def openN (all : Array Oper) (listed : Array Bool) : Nat := ((List.range all.size).filter fun i => !listed.getD i true).length

theorem draw_any {h : Hs} (hok : CallsOK P h) {all : Array Oper} {f : Slots} {n0 : Nat} {h0 : Heap} {R : List Rc} {N nt : Nat} {c0 : Cf} (hR : Recs P h all (junked all.toList ++ f) n0 h0 R N)
    (hall : ∀ o ∈ all.toList, ∀ d, o.dst = some d → d < nt) {Q : Exit → Act → World → Prop}
    (hQ : ∀ a c S, DInv h all f n0 h0 R N nt c0 S c a → (∀ i, i < all.size → S i = true) → Q .normal a c.w) :
    ∀ (fuel : Nat) (listed : Array Bool) (a : Act) (c : Cf), listed.size = all.size → openN all listed ≤ fuel → DInv h all f n0 h0 R N nt c0 (fun i => listed.getD i false) c a → wpAny P .any all Q fuel listed a c.w := by
  have done : ∀ (listed : Array Bool), listed.size = all.size → Region.ready .any all listed = [] → ∀ i, i < all.size → listed.getD i false = true := by
    intro listed hsz hr i
    induction i using Nat.strongRecOn with
    | _ i ih =>
      intro hi
      cases hl : listed.getD i false with
      | true => rfl
      | false =>
        exfalso
        have hmem : i ∈ Region.ready .any all listed := by
          unfold Region.ready
          rw [List.mem_filter]
          refine ⟨List.mem_range.2 hi, ?_⟩
          have h1 : listed.getD i true = false := by
            rw [Array.getD_eq_getD_getElem?, Array.getElem?_eq_getElem (by omega)] at hl ⊢
            exact hl
          rw [h1, Array.getElem?_eq_getElem hi]
          simp only [Bool.not_false, Bool.true_and, Option.map_some, Option.getD_some, Array.all_eq_true']
          intro e he
          cases hb : Region.binds .any e with
          | false => rfl
          | true =>
            obtain ⟨r, hr', hrc, _⟩ := hR.at_ i all[i] (Array.getElem?_eq_getElem hi)
            obtain ⟨q, hq, _, _⟩ := (ancB_spec hrc.anc).1 e (by simpa using he) hb
            have hlt : e.on < i := by
              have := (List.getElem?_eq_some_iff.1 hq).1
              rw [List.length_take] at this; omega
            simpa using ih e.on hlt (by omega)
        rw [hr] at hmem
        cases hmem
  intro fuel
  induction fuel with
  | zero =>
    intro listed a c hsz hn inv
    have hnil : Region.ready .any all listed = [] := by
      have h0 : (List.range all.size).filter (fun i => !listed.getD i true) = [] := List.length_eq_zero_iff.1 (Nat.le_zero.1 hn)
      unfold Region.ready
      rw [List.filter_eq_nil_iff] at h0 ⊢
      intro i hi hb
      rw [Bool.and_eq_true] at hb
      exact h0 i hi hb.1
    exact ⟨hnil, hQ a c _ inv (done listed hsz hnil)⟩
  | succ fuel ih =>
    intro listed a c hsz hn inv
    refine ⟨fun hnil => hQ a c _ inv (done listed hsz hnil), fun i hi => ?_⟩
    unfold Region.ready at hi
    rw [List.mem_filter, List.mem_range, Bool.and_eq_true] at hi
    obtain ⟨hlt, hl, hedge⟩ := hi
    have ho : all[i]? = some all[i] := Array.getElem?_eq_getElem hlt
    rw [ho] at hedge
    simp only [Option.map_some, Option.getD_some, Array.all_eq_true'] at hedge
    have hl0 : listed.getD i false = false := by
      rw [Array.getD_eq_getD_getElem?, Array.getElem?_eq_getElem (by omega)] at hl ⊢
      simpa using hl
    refine draw_step hok hR hall inv ho hl0 (fun e he hb => ?_) fun a' c' inv' => ?_
    · have := hedge e (by simpa using he)
      rw [hb] at this
      simpa using this
    · refine ih _ a' c' (by simp [hsz]) ?_ (inv'.setS ?_)
      · have hlen : openN all (listed.setIfInBounds i true) < openN all listed := by
          unfold openN
          have hset : ∀ j, (!(listed.setIfInBounds i true).getD j true) = (!(j == i) && !listed.getD j true) := by
            intro j
            rw [Array.getD_eq_getD_getElem?, Array.getElem?_setIfInBounds, Array.getD_eq_getD_getElem?]
            by_cases hj : i = j
            · subst hj
              rw [if_pos rfl, if_pos (by omega)]
              simp
            · rw [if_neg hj]
              have : (j == i) = false := by simpa using fun h => hj h.symm
              rw [this]; simp
          simp only [hset]
          rw [← List.filter_filter]
          rw [List.length_filter_lt_length_iff_exists]
          exact ⟨i, List.mem_filter.2 ⟨List.mem_range.2 hlt, hl⟩, by simp⟩
        omega
      · funext j
        simp only [Array.getD_eq_getD_getElem?, Array.getElem?_setIfInBounds]
        by_cases hj : i = j
        · subst hj
          rw [if_pos rfl, if_pos (by omega)]
          simp
        · rw [if_neg hj]
          have : (j == i) = false := by simpa using fun h => hj h.symm
          rw [this]; simp

theorem RelH.lows {c : Cf} {n : Nat} {hp : Heap} (h : RelH c n hp) : ∀ id cs, lk hp id = .box cs → ∀ x ∈ cs, inB (fun id => Nat.blt id n) x = true := by
  intro id cs hb x hx
  obtain ⟨vs, e, _, _, h3⟩ := h.box id cs hb
  obtain ⟨j, hj⟩ := List.getElem?_of_mem hx
  exact (h3 j x hj).1.inB

theorem evDraw_wp {h : Hs} (hok : CallsOK P h) (hm : P.follows .mixedOrders = true) {nt id : Nat} {all : Array Oper} (hall : ∀ o ∈ all.toList, ∀ d, o.dst = some d → d < nt) {Q : Exit → Act → World → Prop} {st st' : St} {a : Act} {c : Cf}
    (he : evDraw P h all.toList st = some st') (hr : SR h.G nt c st a) (hQ : ∀ a' c', Ext c st.n c' → st.n ≤ st'.n → SR h.G nt c' st' a' → Q .normal a' c'.w) : (Code.region id all true).wp P Q a c.w := by
  unfold evDraw at he
  split at he
  · rename_i R N hgo
    injection he with he
    subst he
    have hspec := drawGo_spec _ _ _ _ _ hgo
    have hR : Recs P h all (junked all.toList ++ st.f) st.n st.h R N := by
      refine ⟨by rw [hspec.2.1]; simp, hspec.1, fun i o ho => ?_, fun id hl => hr.h.lt id hl, hr.h.lows⟩
      have := hspec.2.2.2 i o (by simpa using ho)
      simpa using this
    refine wp_region_any hm ?_
    -- the same, one more thing drawn
    let c1 : Cf := { c with w := { c.w with drawn := c.w.drawn + 1 } }
    have hext : Ext c st.n c1 := ⟨Nat.le_refl _, fun _ h => ⟨h, rfl⟩, fun _ cs _ _ h => ⟨cs, h, rfl⟩, fun _ _ => rfl, fun _ _ => rfl, rfl, rfl, fun _ _ => rfl, rfl, rfl, rfl⟩
    have hs1 : RelS c1 st.n st.f a.tmps := hr.s.mono hext (Nat.le_refl _)
    have hh1 : RelH c1 N st.h := by
      have b := hr.h
      refine ⟨fun id hl => Nat.lt_of_lt_of_le (b.lt id hl) hspec.1, ?_, ?_, ?_, b.own, b.inj, b.low, b.ownK, b.disj, b.lowK⟩
      · intro id cs hb
        obtain ⟨vs, e, h1, h2, h3⟩ := b.box id cs hb
        exact ⟨vs, e, h1, h2, fun j x hj => ⟨(h3 j x hj).1.mono hext hspec.1, (h3 j x hj).2⟩⟩
      · intro id wd xs hb
        exact (b.arr id wd xs hb).frame hext.kept rfl rfl rfl
      · intro id wd xs hb
        exact ⟨(b.fz id wd xs hb).1.frame hext.kept rfl rfl rfl, (b.fz id wd xs hb).2⟩
    have selS0 : ∀ (R : List Rc) (k : Nat), selH (fun _ => false) k R = [] := by
      intro R
      induction R with
      | nil => intro k; rfl
      | cons r R ih => intro k; rw [selH, ih]; rfl
    have lst : (fun i => (Array.replicate all.size false).getD i false) = fun _ => false := by
      funext i
      simp only [Array.getD_eq_getD_getElem?, Array.getElem?_replicate]
      split <;> rfl
    have inv0 : DInv h all st.f st.n st.h R N nt c (fun i => (Array.replicate all.size false).getD i false) c1 a := by
      rw [lst]
      refine ⟨fun _ _ _ h => by simp at h, hs1.glob, hr.g, hr.size, hr.defers, hext, fun t ht => hs1.get t, fun _ _ _ h => by simp at h, ?_⟩
      rw [selS0]
      exact hh1
    refine draw_any hok hR hall (c0 := c) (fun a' c' S inv hS => ?_) all.size _ a c1 (by simp) ?_ inv0
    · have hall' : ∀ i r, R[i]? = some r → S i = true := fun i r hi => hS i (by rw [← hR.len]; exact (List.getElem?_eq_some_iff.1 hi).1)
      have e1 : ∀ id, lk (selH (fun _ => true) 0 R ++ st.h) id = lk (selH S 0 R ++ st.h) id := fun id =>
        selH_congr (fun j r hj hne => absurd (by rw [Nat.zero_add]; exact (hall' j r hj).symm) hne) rfl
      refine hQ a' c' inv.ext hspec.1 ⟨inv.g, ⟨inv.glob, fun t => ?_⟩, ?_, inv.size, inv.defers⟩
      · show RelV c' N (get (selS (fun _ => true) 0 R ++ (junked all.toList ++ st.f)) t) _
        rw [get_append]
        by_cases hk : t ∈ (selS (fun _ => true) 0 R).map Prod.fst
        · rw [if_pos hk]
          obtain ⟨j, q, h1, h2, h3⟩ := selS_keys.1 hk
          rw [selS_last h1 rfl h3 (fun j' q' hj' hq' _ ht' => ((hR.facts hq').2.2.2.1 j q hj' h1).2 t h3 ht')]
          obtain ⟨x, hx, rfl⟩ := List.mem_map.1 h3
          have hxs : get q.s x.1 = x.2 := by
            obtain ⟨o', ho', hrc', _⟩ := hR.of h1
            obtain ⟨st'', _, hq''⟩ := hrc'.st
            rw [hq''] at hx ⊢
            simp only [rcOf, putOf] at hx ⊢
            cases hd : o'.dst with
            | none => rw [hd] at hx; simp at hx
            | some d =>
              rw [hd] at hx
              simp only [List.mem_singleton] at hx
              subst hx
              simp [get]
          rw [hxs]
          exact inv.rec_ j q h1 (hall' j q h1) x hx
        · rw [if_neg hk]
          rcases get_junked all.toList st.f t with h1 | ⟨h1, h2⟩
          · rw [h1]; exact .junk _
          · rw [h1]
            exact (inv.base t h2).mono (.refl _ _) hspec.1
      · have b := inv.heap
        exact ⟨fun id hl => b.lt id (by rw [← e1]; exact hl), fun id cs hb => b.box id cs (by rw [← e1]; exact hb), fun id w xs hb => b.arr id w xs (by rw [← e1]; exact hb),
          fun id w xs hb => b.fz id w xs (by rw [← e1]; exact hb), fun id ho => b.own id (by rw [← e1]; exact ho), fun id id' ho ho' => b.inj id id' (by rw [← e1]; exact ho) (by rw [← e1]; exact ho'), b.low,
          fun id ho => b.ownK id (by rw [← e1]; exact ho), b.disj, b.lowK⟩
    · unfold openN
      have := List.length_filter_le (fun i => !(Array.replicate all.size false).getD i true) (List.range all.size)
      simpa using this
  · cases he
end Go.Fw
end
section
/- Code does what the plain evaluator says. By this session. -/
set_option linter.unusedVariables false
set_option linter.unusedSimpArgs false
namespace Go.Fw
variable {P : Program}

def exitOf : X → Exit
  | .n => .normal
  | .ret => .ret
  | .exit id => .exit id

def CodeOK (P : Program) (G : Nat → Option (List D)) (nt : Nat) (code : Code) (st : St) (r : X × St) : Prop :=
  ∀ (c : Cf) (a : Act) (Q : Exit → Act → World → Prop), SR G nt c st a → (∀ a' c', Ext c st.n c' → st.n ≤ r.2.n → SR G nt c' r.2 a' → Q (exitOf r.1) a' c'.w) → code.wp P Q a c.w

def LoopsOK (P : Program) (h : Hs) : Prop := ∀ nt body st r, okCode nt body = true → h.loop body st = some r → CodeOK P h.G nt (.loop body) st r

theorem ev_wp {h : Hs} (hok : CallsOK P h) (hl : LoopsOK P h) {nt : Nat} : ∀ (code : Code) (st : St) (r : X × St), okCode nt code = true → ev P h code st = some r → CodeOK P h.G nt code st r
  | .skip, st, r, hk, he => by
    simp only [ev, Option.some.injEq] at he
    subst he
    intro c a Q hr hQ
    exact wp_skip (hQ a c (.refl c _) (Nat.le_refl _) hr)
  | .region id ops false, st, r, hk, he => by
    simp only [ev, norm] at he
    split at he
    · rename_i st' h1
      injection he with he
      subst he
      intro c a Q hr hQ
      refine wp_region_list (evOps_wp hok ?_ ops.toList st st' a c (fun o ho => ho) h1 hr hQ)
      intro o ho d hd
      simp only [okCode, List.all_eq_true] at hk
      have := hk o ho
      rw [hd] at this
      exact Nat.le_of_ble_eq_true this
    · cases he
  | .region id ops true, st, r, hk, he => by
    simp only [ev] at he
    obtain ⟨hm, he⟩ := cond_some he
    unfold norm at he
    split at he
    · rename_i st' h1
      injection he with he
      subst he
      intro c a Q hr hQ
      refine evDraw_wp hok hm ?_ h1 hr hQ
      intro o ho d hd
      simp only [okCode, List.all_eq_true] at hk
      have := hk o ho
      rw [hd] at this
      exact Nat.le_of_ble_eq_true this
    · cases he
  | .seq x y, st, r, hk, he => by
    simp only [okCode, Bool.and_eq_true] at hk
    simp only [ev] at he
    intro c a Q hr hQ
    split at he
    · rename_i st1 h1
      refine wp_seq (ev_wp hok hl x st _ hk.1 h1 c a _ hr fun a1 c1 hx1 hn1 hr1 => ?_)
      exact ev_wp hok hl y st1 r hk.2 he c1 a1 Q hr1 fun a2 c2 hx2 hn2 hr2 => hQ a2 c2 (hx1.trans hx2 hn1) (Nat.le_trans hn1 hn2) hr2
    · rename_i hne
      refine wp_seq (ev_wp hok hl x st r hk.1 he c a _ hr fun a1 c1 hx1 hn1 hr1 => ?_)
      have := hQ a1 c1 hx1 hn1 hr1
      obtain ⟨x', st'⟩ := r
      cases x' with
      | n => exact absurd he (hne st')
      | ret => exact this
      | exit id => exact this
  | .cond co x y, st, r, hk, he => by
    simp only [okCode, Bool.and_eq_true] at hk
    simp only [ev] at he
    intro c a Q hr hQ
    split at he
    · rename_i t ht
      have hv := opV_rel hr.s co
      rw [hr.g, ht] at hv
      have hc : a.eval co = .bool t := by
        generalize a.eval co = v at hv
        cases hv.inv_d
        rfl
      refine wp_cond hc ?_
      cases t with
      | true => exact ev_wp hok hl x st r hk.1 he c a Q hr hQ
      | false => exact ev_wp hok hl y st r hk.2 he c a Q hr hQ
    · cases he
  | .block id x, st, r, hk, he => by
    simp only [okCode] at hk
    simp only [ev] at he
    intro c a Q hr hQ
    refine wp_block ?_
    unfold leave at he
    split at he
    · rename_i j st1 h1
      refine ev_wp hok hl x st _ hk h1 c a _ hr fun a1 c1 hx1 hn1 hr1 => ?_
      by_cases hj : j = id
      · subst hj
        simp only [beq_self_eq_true, cond_true, Option.some.injEq] at he
        subst he
        simp only [exitOf, Exit.inBlock, if_true]
        exact hQ a1 c1 hx1 hn1 hr1
      · rw [show (j == id) = false from by simpa using hj] at he
        simp only [cond_false, Option.some.injEq] at he
        subst he
        simp only [exitOf, Exit.inBlock, if_neg hj]
        exact hQ a1 c1 hx1 hn1 hr1
    · rename_i hne
      refine ev_wp hok hl x st r hk he c a _ hr fun a1 c1 hx1 hn1 hr1 => ?_
      have := hQ a1 c1 hx1 hn1 hr1
      obtain ⟨x', st'⟩ := r
      cases x' with
      | n => exact this
      | ret => exact this
      | exit j => exact absurd he (hne j st')
  | .loop x, st, r, hk, he => by
    simp only [okCode] at hk
    simp only [ev] at he
    exact hl nt x st r hk he
  | .exit id, st, r, hk, he => by
    simp only [ev, Option.some.injEq] at he
    subst he
    intro c a Q hr hQ
    exact wp_exit (hQ a c (.refl c _) (Nat.le_refl _) hr)
  | .ret, st, r, hk, he => by
    simp only [ev, Option.some.injEq] at he
    subst he
    intro c a Q hr hQ
    exact wp_ret (hQ a c (.refl c _) (Nat.le_refl _) hr)
  | .rangeFunc .., st, r, hk, he => by simp [ev] at he
  | .scope _, st, r, hk, he => by simp [ev] at he
  | .label _, st, r, hk, he => by simp [ev] at he
  | .goto _, st, r, hk, he => by simp [ev] at he
  | .refuse _, st, r, hk, he => by simp [ev] at he
end Go.Fw
end
section
/- Whole functions, however often they call each other, do what the plain evaluator says. By this session. -/
set_option linter.unusedVariables false
set_option linter.unusedSimpArgs false
namespace Go.Fw
variable {P : Program}

def resF (tmps : Array Value) : ResultVar → Sem Value
  | .tmp t => pure (tmps.getD t undef)
  | .cell a t => do loadVar t (← asAddr (tmps.getD a undef))

theorem resV_sound {G : Nat → Option (List D)} {nt : Nat} {c : Cf} {st : St} {a : Act} (hr : SR G nt c st a) {rv : ResultVar} {v : V} (h : resV P st rv = some v) :
    ∃ u, (resF a.tmps rv).run P c.w = .ok u c.w ∧ RelV c st.n v u := by
  cases rv with
  | tmp t =>
    simp only [resV, Option.some.injEq] at h
    subst h
    exact ⟨_, rfl, hr.s.get t⟩
  | cell p t =>
    simp only [resV] at h
    obtain ⟨u, h1, h2⟩ := loadV_sound hr.h h (hr.s.get p)
    refine ⟨u, ?_, h2⟩
    have hp : ∃ ad, a.tmps.getD p undef = .pointer (some ad) := by
      have hrel := hr.s.get p
      unfold loadV at h
      split at h
      · rename_i hg; rw [hg] at hrel; generalize a.tmps.getD p undef = q at hrel; cases hrel; exact ⟨_, rfl⟩
      · rename_i hg; rw [hg] at hrel; generalize a.tmps.getD p undef = q at hrel; cases hrel; exact ⟨_, rfl⟩
      · rename_i hg; rw [hg] at hrel; generalize a.tmps.getD p undef = q at hrel; cases hrel; exact ⟨_, rfl⟩
      · cases h
    obtain ⟨ad, hp⟩ := hp
    simp only [resF, hp, asAddr, Sem.run_bind, Sem.run_pure, Result.andThen_ok]
    simpa [Instr.loadAt, Instr.sureAddr, hp] using h1

theorem ress_sound {G : Nat → Option (List D)} {nt : Nat} {c : Cf} {st : St} {a : Act} (hr : SR G nt c st a) : ∀ (rs : List ResultVar) (vs : List V), ress P st rs = some vs →
    ∃ us, (rs.mapM (resF a.tmps)).run P c.w = .ok us c.w ∧ RelL c st.n vs us
  | [], vs, h => by
    simp only [ress, Option.some.injEq] at h
    subst h
    exact ⟨[], by simp, rfl, by simp⟩
  | rv :: rs, vs, h => by
    simp only [ress] at h
    split at h
    · rename_i v vs' h1 h2
      injection h with h
      subst h
      obtain ⟨u, hu, hru⟩ := resV_sound hr h1
      obtain ⟨us, hus, hl, hrel⟩ := ress_sound hr rs vs' h2
      refine ⟨u :: us, by simp only [List.mapM_cons, Sem.run_bind, hu, hus, Result.andThen_ok, Sem.run_pure], by simp [hl], fun j x hj => ?_⟩
      cases j with
      | zero => simp only [List.getElem?_cons_zero, Option.some.injEq] at hj; subst hj; exact ⟨u, rfl, hru⟩
      | succ j => simpa using hrel j x (by simpa using hj)
    · cases h

theorem results_sound {G : Nat → Option (List D)} {nt : Nat} {c : Cf} {st : St} {a : Act} (hr : SR G nt c st a) {fn : Func} {vs : List V} (h : ress P st fn.results.toList = some vs) :
    ∃ u, (results fn a.tmps).run P c.w = .ok u c.w ∧ RelV c st.n (oneV vs) u := by
  obtain ⟨us, h1, hl, hrel⟩ := ress_sound hr _ _ h
  have hmap : (fn.results.mapM (resF a.tmps)).run P c.w = .ok us.toArray c.w := by
    rw [Array.mapM_eq_mapM_toList]
    simp only [Sem.run_map, h1, Result.andThen_ok]
  have hres : (results fn a.tmps).run P c.w = .ok (if h : us.toArray.size = 1 then us.toArray[0] else .tuple us.toArray) c.w := by
    have : (results fn a.tmps) = (do let vs ← fn.results.mapM (resF a.tmps); pure (if h : vs.size = 1 then vs[0] else .tuple vs)) := by
      unfold results
      congr 2
    rw [this, Sem.run_bind, hmap]
    rfl
  refine ⟨_, hres, ?_⟩
  by_cases h1 : us.length = 1
  · rw [dif_pos (by simpa using h1)]
    have h2 : vs.length = 1 := by omega
    obtain ⟨v, rfl⟩ := List.length_eq_one_iff.1 h2
    obtain ⟨u, rfl⟩ := List.length_eq_one_iff.1 h1
    obtain ⟨u', hu, hru⟩ := hrel 0 v rfl
    simp only [List.getElem?_cons_zero, Option.some.injEq] at hu
    subst hu
    exact hru
  · rw [dif_neg (by simpa using h1)]
    have : oneV vs = mkTp vs := by
      unfold oneV
      split
      · rename_i v; exact absurd (by simpa using hl) h1
      · rfl
    rw [this]
    refine mkTp_rel _ _ (by simpa using hl) fun j x hj => ?_
    obtain ⟨u, hu, hru⟩ := hrel j x hj
    rw [Array.getD_eq_getD_getElem?, List.getElem?_toArray, hu]
    exact hru

theorem zipArgs_get : ∀ (vs : List V) (k i : Nat), get (zipArgs k vs) i = if k ≤ i then (vs[i - k]?).getD .junk else .junk
  | [], k, i => by simp [zipArgs, get]
  | v :: vs, k, i => by
    simp only [zipArgs, get_cons, zipArgs_get vs]
    by_cases h : k = i
    · subst h; simp
    · rw [if_neg h]
      by_cases h2 : k + 1 ≤ i
      · rw [if_pos h2, if_pos (by omega), show i - k = (i - (k + 1)) + 1 from by omega]
        simp
      · rw [if_neg h2, if_neg (by omega)]

theorem fnOf_spec {g : FuncId} {d : Fd} (h : fnOf P g = some d) : ∃ fn, P.funcs[g]? = some fn ∧ fn.body = some d.code ∧ (fn.name == "runtime.NumGoroutine") = false ∧ okCode d.nt d.code = true ∧ fn.ntmps = d.nt ∧ fn.results.toList = d.res := by
  unfold fnOf at h
  split at h
  · rename_i fn hfn
    split at h
    · rename_i c hc
      obtain ⟨hb, h⟩ := cond_some h
      injection h with h
      subst h
      rw [Bool.and_eq_true] at hb
      refine ⟨fn, hfn, hc, ?_, hb.2, rfl, rfl⟩
      have := hb.1
      simpa [bne] using this
    · cases h
  · cases h

theorem callBody_sound {h : Hs} (hok : CallsOK P h) (hl : LoopsOK P h) {g : FuncId} {xs : List V} {n : Nat} {hp : Heap} {r : V × Nat × Heap} (he : callBody P h g xs n hp = some r) : Enters P g ∧ MCall P h.G g xs n hp r := by
  unfold callBody at he
  split at he
  · rename_i d hd
    obtain ⟨fn, h1, h2, h3, h4, h5, h6⟩ := fnOf_spec hd
    obtain ⟨hle, he⟩ := cond_some he
    have hle := Nat.le_of_ble_eq_true hle
    refine ⟨⟨fn, h1, h3, by rw [h2]; rfl⟩, ?_⟩
    intro c vs hG hg hH hL
    have hsz : vs.size = xs.length := by have := hL.1; simpa using this
    have hr0 : SR h.G d.nt c ⟨zipArgs 0 xs, n, hp⟩ { tmps := vs ++ Array.replicate (fn.ntmps - vs.size) undef, defers := [] } := by
      refine ⟨hG, ⟨hg, fun i => ?_⟩, hH, by simp; omega, rfl⟩
      rw [zipArgs_get, if_pos (Nat.zero_le _)]
      simp only [Nat.sub_zero]
      by_cases hi : i < xs.length
      · obtain ⟨u, hu, hru⟩ := hL.2 i _ (List.getElem?_eq_getElem hi)
        rw [List.getElem?_eq_getElem hi]
        rw [Array.getElem?_toList] at hu
        rw [Array.getD_eq_getD_getElem?, Array.getElem?_append, if_pos (by omega), hu]
        exact hru
      · rw [List.getElem?_eq_none (by omega)]
        exact .junk _
    refine calls_of_wp h1 h2 ?_
    have finish : ∀ (st : St) (a' : Act) (c' : Cf) (vs' : List V), Ext c n c' → n ≤ st.n → SR h.G d.nt c' st a' → ress P st d.res = some vs' → r = (oneV vs', st.n, st.h) →
        a'.defers = [] ∧ ∃ v, (results fn a'.tmps).run P c'.w = .ok v c'.w ∧ ∃ v' c'', Ending.returned v = .returned v' ∧ c'.w = c''.w ∧ Outs c n r v' c'' := by
      rintro st a' c' vs' hx hn hr hres rfl
      rw [← h6] at hres
      obtain ⟨u, hu, hru⟩ := results_sound (P := P) hr hres
      exact ⟨hr.defers, u, hu, u, c', rfl, rfl, hx, hn, hr.h, hru⟩
    unfold fin at he
    split at he
    · rename_i st hev
      split at he
      · rename_i vs' hres
        injection he with he
        exact ev_wp hok hl d.code _ _ h4 hev c _ _ hr0 fun a' c' hx hn hr => finish st a' c' vs' hx hn hr hres he.symm
      · cases he
    · rename_i st hev
      split at he
      · rename_i vs' hres
        injection he with he
        exact ev_wp hok hl d.code _ _ h4 hev c _ _ hr0 fun a' c' hx hn hr => finish st a' c' vs' hx hn hr hres he.symm
      · cases he
    · cases he
  · cases he

theorem relH_empty {c : Cf} (hI : ∀ b, c.I b → b < c.w.heap.size) (hK : ∀ b, c.K b → b < c.w.heap.size) (hd : ∀ b, c.I b → ¬ c.K b) : RelH c 0 [] where
  lt := fun id h => absurd rfl h
  box := fun id cs h => by cases h
  arr := fun id a b h => by cases h
  fz := fun id a b h => by cases h
  own := fun id h => by cases h
  inj := fun i j h => by cases h
  low := hI
  ownK := fun id h => by cases h
  disj := hd
  lowK := hK

theorem pcallBody_sound {h : Hs} (hok : CallsOK P h) (hl : LoopsOK P h) {g : FuncId} {ds : List D} {r : D} (he : pcallBody P h g ds = some r) : Enters P g ∧ PCall P h.G g ds r := by
  unfold pcallBody expO at he
  split at he
  · rename_i v n hp hb
    obtain ⟨hent, hm⟩ := callBody_sound hok hl hb
    refine ⟨hent, ?_⟩
    intro w I K vs hg hI hK hd hsz hargs
    have hH : RelH ⟨w, I, K, fun _ => 0, fun _ => 0, h.G⟩ 0 [] := relH_empty hI hK hd
    refine (hm ⟨w, I, K, fun _ => 0, fun _ => 0, h.G⟩ vs rfl hg hH ⟨by simpa using hsz, fun j x hj => ?_⟩).mono ?_
    · simp only [List.getElem?_map] at hj
      obtain ⟨d, hd', rfl⟩ := Option.map_eq_some_iff.1 hj
      have hlt := (List.getElem?_eq_some_iff.1 hd').1
      refine ⟨vs.getD j undef, ?_, .d _ _ (hargs j d hd')⟩
      rw [Array.getElem?_toList, Array.getD_eq_getD_getElem?, Array.getElem?_eq_getElem (by omega)]; rfl
    · rintro e w' ⟨u, c', rfl, rfl, hO⟩
      obtain ⟨c2, hp2, hF, hX⟩ := expD_sound he hO.heap hO.rel
      have hx := hO.ext.trans hF.ext hO.le
      have hw : c2.w = c'.w := hF.w
      refine ⟨u, c2.I, rfl, hO.ext.size, ?_, ?_, fun b hb => ⟨?_, ?_⟩, ?_, hO.ext.os, hO.ext.tape, hO.ext.output, ?_⟩
      · have := hx.kept; rw [hw] at this; exact this
      · exact hO.ext.keptK
      · have := hF.heap.low b hb; rw [hw] at this; exact this
      · have := hF.heap.disj b hb
        rw [hx.K] at this
        exact this
      · exact hO.ext.shape
      · have hKK : c2.K = K := hx.K
        rw [hw, hKK] at hX
        exact hX
  · cases he

theorem hsN_G (G : Nat → Option (List D)) (E : FuncId → Option (List D → Option D)) (T : FuncId → List D → Option D) (k : Nat) : (hsN P G E T k).G = G := by cases k <;> rfl
theorem hsN_ext (G : Nat → Option (List D)) (E : FuncId → Option (List D → Option D)) (T : FuncId → List D → Option D) (k : Nat) : (hsN P G E T k).ext = E := by cases k <;> rfl

def Rounds (P : Program) (h : Hs) (k : Nat) : Prop := ∀ nt body st r, okCode nt body = true → h.loop body st = some r →
  ∀ (c : Cf) (a : Act) (Q : Exit → Act → World → Prop), SR h.G nt c st a → (∀ a' c', Ext c st.n c' → st.n ≤ r.2.n → SR h.G nt c' r.2 a' → Q (exitOf r.1) a' c'.w) → Code.rounds P body Q k a c.w

theorem Rounds.loops {h : Hs} {k : Nat} (hr : Rounds P h k) : LoopsOK P h := fun nt body st r hk he c a Q hs hQ => wp_loop_rounds k (hr nt body st r hk he c a Q hs hQ)

theorem hsN_good {G : Nat → Option (List D)} {E : FuncId → Option (List D → Option D)} {T : FuncId → List D → Option D} (hE : ∀ g f, E g = some f → ExtOK P g f) (hT : ∀ g ds r, T g ds = some r → Enters P g ∧ PCall P G g ds r) : ∀ k, CallsOK P (hsN P G E T k) ∧ Rounds P (hsN P G E T k) k
  | 0 => ⟨⟨fun g f h => hE g f h, (fun g ds r h => hT g ds r h), (fun g xs n hp r h => by cases h)⟩, (fun nt body st r hk h => by cases h)⟩
  | k + 1 => by
    obtain ⟨hc, hr⟩ := hsN_good hE hT k
    have hl := hr.loops
    have hG : (hsN P G E T (k + 1)).G = (hsN P G E T k).G := by rw [hsN_G, hsN_G]
    refine ⟨⟨fun g f h => hE g f h, fun g ds r h => ?_, fun g xs n hp r h => ?_⟩, ?_⟩
    · rw [hG]
      have h' : orT T (pcallBody P (hsN P G E T k)) g ds = some r := h
      unfold orT at h'
      split at h'
      · rename_i q hq
        injection h' with h'
        subst h'
        rw [hsN_G]
        exact hT g ds _ hq
      · exact pcallBody_sound hc hl h'
    · rw [hG]; exact callBody_sound hc hl h
    · intro nt body st r hk he c a Q hs hQ
      rw [hG] at hs hQ
      rw [rounds_succ]
      have he' : loopStep (hsN P G E T k) body (ev P (hsN P G E T k) body st) = some r := he
      unfold loopStep at he'
      split at he'
      · rename_i st' h1
        refine ev_wp hc hl body st _ hk h1 c a _ hs fun a1 c1 hx1 hn1 hs1 => ?_
        exact hr nt body st' r hk he' c1 a1 Q hs1 fun a2 c2 hx2 hn2 hs2 => hQ a2 c2 (hx1.trans hx2 hn1) (Nat.le_trans hn1 hn2) hs2
      · rename_i hne
        refine ev_wp hc hl body st r hk he' c a _ hs fun a1 c1 hx1 hn1 hs1 => ?_
        have := hQ a1 c1 hx1 hn1 hs1
        obtain ⟨x', st'⟩ := r
        cases x' with
        | n => exact absurd he' (hne st')
        | ret => exact this
        | exit id => exact this

/-- A call that the plain evaluator tells. -/
theorem call_sound {G : Nat → Option (List D)} {E : FuncId → Option (List D → Option D)} {T : FuncId → List D → Option D} (hE : ∀ g f, E g = some f → ExtOK P g f) (hT : ∀ g ds r, T g ds = some r → Enters P g ∧ PCall P G g ds r) {k : Nat} {g : FuncId} {ds : List D} {r : D} (h : (hsN P G E T k).pcall g ds = some r) : PCall P G g ds r := by
  have := ((hsN_good hE hT k).1.pcall g ds r h).2
  rw [hsN_G] at this
  exact this
end Go.Fw
end
section
/- The plain evaluator, for values that are not told: it answers with a tree, whose conditions stand at its forks. By this session. -/
set_option linter.unusedVariables false
namespace Go.Fw

/-! what a thing that is not told would be, and whether it is -/
def isB : D → Bool
  | .b _ => true
  | _ => false
def bOf : D → Bool
  | .b x => x
  | _ => false
def isI (k : IntKind) : D → Bool
  | .i k' _ => decide (k = k')
  | _ => false
def iOf : D → Int
  | .i _ n => n
  | _ => 0
def isS : D → Bool
  | .s _ => true
  | _ => false
def sOf : D → ByteArray
  | .s x => x
  | _ => ByteArray.empty
def isNsl : D → Bool
  | .nsl => true
  | _ => false
def isSlD : D → Bool
  | .sl _ _ => true
  | _ => false
def wOf : D → Nat
  | .sl w _ => w
  | _ => 0
def xsOf : D → Ls
  | .sl _ xs => xs
  | _ => .r []
def isAg (n : Nat) : D → Bool
  | .ag cs => cs.length == n
  | _ => false
def isBytes : List D → Bool
  | [] => true
  | .i .u8 _ :: ds => isBytes ds
  | _ :: _ => false
def bytesOf : List D → List UInt8
  | [] => []
  | d :: ds => UInt8.ofNat (iOf d).toNat :: bytesOf ds

section
variable {α : Type}
def leafK (z x : D) (K : D → Option α) : Option α := match z with
  | .b _ => bif isB x then K (.b (bOf x)) else none
  | .i k _ => bif isI k x then K (.i k (iOf x)) else none
  | .s _ => bif isS x then K (.s (sOf x)) else none
  | .nsl => bif isNsl x then K .nsl else bif isSlD x then K (.sl (wOf x) (xsOf x)) else none
  | _ => K x
def cellsK (cs : List D) : List D → Nat → (List D → Option α) → Option α
  | [], _, K => K []
  | z :: zs, c, K => leafK z (cs.getD c .nsl) fun d => cellsK cs zs (c + 1) fun ds => K (d :: ds)
def someK (r : Option V) (K : V → Option α) : Option α := match r with
  | some v => K v
  | none => none
end

section
variable {α : Type} (P : Program)
def partK (t : TypeId) (cs : List D) (off : Nat) (K : D → Option α) : Option α := match aggT P t, zeroD P t with
  | some true, some (.ag zs) => bif zs.length == sz P t && Nat.ble (off + sz P t) cs.length then cellsK cs zs off fun ds => K (.ag ds) else none
  | some false, some z => bif Nat.blt off cs.length then leafK z (cs.getD off .nsl) K else none
  | _, _ => none
def loadK (t : TypeId) (hp : Heap) (a : V) (K : V → Option α) : Option α := match a with
  | .pt id off => someK (loadV P t hp (.pt id off)) K
  | .ep id w k c => match lk hp id with
    | .arr w' xs => bif w == w' && Nat.blt k xs.len then partK P t (xs.rd k).cells c fun d => K (.d d) else none
    | .fz w' xs => bif w == w' && Nat.blt k xs.len then partK P t (xs.rd k).cells c fun d => K (.d d) else none
    | _ => none
  | .rp cs c => partK P t cs c fun d => K (.d d)
  | _ => none
def storeK (t : TypeId) (hp : Heap) (a v : V) (K : Heap → Option α) : Option α := match a with
  | .ep id w k o => bif okC v && v.cells.length == sz P t && Nat.blt 0 (sz P t) then
      match lk hp id with
      | .arr w' (.t T l) => bif w == w' && Nat.blt k l.length then
          match allD v.cells with
          | some ds => match reD (T.elt (l.getD k T.dflt)) o ds with
            | some x' => K ((id, .arr w' ((Ls.t T l).put k x')) :: hp)
            | none => none
          | none => none
        else none
      | .arr w' (.r xs) => bif w == w' && Nat.blt k xs.length && o == 0 then
          match allD v.cells with
          | some ds => match aggT P t with
            | some true => bif isAg ds.length (xs.getD k .nsl) then K ((id, .arr w' (.r (xs.set k (.ag ds)))) :: hp) else none
            | some false => match ds with
              | [d] => bif (xs.getD k .nsl).leaf && d.leaf then K ((id, .arr w' (.r (xs.set k d))) :: hp) else none
              | _ => none
            | none => none
          | none => none
        else none
      | _ => none
    else none
  | a => match storeV P t hp a v with
    | some hp' => K hp'
    | none => none

def eqFldsB (eq : TypeId → D → D → Option Bool) (xs ys : List D) : List Field → Option Bool
  | [] => some true
  | f :: fs => bif f.name != "_" then
      match partD P f.type xs f.offset, partD P f.type ys f.offset with
      | some x, some y => match eq f.type x y, eqFldsB eq xs ys fs with
        | some t, some u => some (t && u)
        | _, _ => none
      | _, _ => none
    else eqFldsB eq xs ys fs
def eqTB : Nat → TypeId → D → D → Option Bool
  | 0, _, _, _ => none
  | n + 1, t, x, y => match x, y with
    | .ag xs, .ag ys => match P.underlying t with
      | some (.struct fs) => bif P.stoodInHeld t then none else eqFldsB P (eqTB n) xs ys fs.toList
      | _ => none
    | x, y => eqLeaf P t x y
def binK (op : BinOp) (t : TypeId) (x y : V) (K : V → Option α) : Option α := match x, y with
  | .d (.i k a), .d (.i k' c) => match op with
    | .shl => bif decide (c < 0) then none else K (.d (.i k (k.wrap (a * 2 ^ (min c.toNat k.bits)))))
    | .shr => bif decide (c < 0) then none else K (.d (.i k (a.fdiv (2 ^ (min c.toNat k.bits)))))
    | .quo => bif decide (k = k') then (bif decide (c = 0) then none else K (.d (.i k (k.wrap (a.tdiv c))))) else none
    | .rem => bif decide (k = k') then (bif decide (c = 0) then none else K (.d (.i k (a.tmod c)))) else none
    | _ => someK (binV P op t x y) K
  | .d (.s a), .d (.s c) => match op with
    | .add => bif Nat.ble (a.size + c.size) 9223372036854775807 then K (.d (.s (a ++ c))) else none
    | _ => someK (binV P op t x y) K
  | .d (.ag xs), .d (.ag ys) => bif P.eqGuardType P.depth t then none else match op with
    | .eql => match eqTB P 50 t (.ag xs) (.ag ys) with
      | some r => K (.d (.b r))
      | none => none
    | .neq => match eqTB P 50 t (.ag xs) (.ag ys) with
      | some r => K (.d (.b !r))
      | none => none
    | _ => none
  | _, _ => someK (binV P op t x y) K
def asNatK (n : Int) (below : Nat) (K : Nat → Option α) : Option α := bif decide (0 ≤ n) && decide (n < (below : Int)) then K n.toNat else none
def bndK (G : Nat → Option (List D)) (f : Slots) (o : Option Operand) (dflt most : Nat) (K : Nat → Option α) : Option α := match o with
  | none => K dflt
  | some x => match opV G f x with
    | .d (.i _ n) => bif decide (0 ≤ n) && decide (n ≤ (most : Int)) then K n.toNat else none
    | _ => none
def indexK (t : TypeId) (x i : V) (K : V → Option α) : Option α := match i with
  | .d (.i _ n) => match x with
    | .d (.s s) => bif strT P t then asNatK n s.size fun j => K (.d (.i .u8 ((s.data.toList.getD j 0).toNat : Int))) else none
    | .d (.ag cs) => match arrT P t with
      | some (len, e) => asNatK n len fun j => partK P e cs (j * sz P e) fun d => K (.d d)
      | none => none
    | _ => someK (indexV P t x i) K
  | _ => none
def indexAddrK (t : TypeId) (x i : V) (K : V → Option α) : Option α := match i with
  | .d (.i _ n) => match elemT P t with
    | some e => match x with
      | .d (.sl w xs) => bif w == sz P e && Nat.blt 0 w then asNatK n xs.len fun j => K (.rp (xs.rd j).cells 0) else none
      | .fl w xs => bif w == sz P e && Nat.blt 0 w then asNatK n xs.len fun j => K (.rp (xs.rd j).cells 0) else none
      | .ms id w off len => bif w == sz P e && Nat.blt 0 w then asNatK n len fun j => K (.ep id w (off + j) 0) else none
      | _ => none
    | none => match arrT P t with
      | some (len, e) => match x with
        | .pt id o => bif Nat.blt 0 (sz P e) then asNatK n len fun j => K (.pt id (o + j * sz P e)) else none
        | .rp cs o => bif Nat.blt 0 (sz P e) then asNatK n len fun j => K (.rp cs (o + j * sz P e)) else none
        | _ => none
      | none => none
  | _ => none
def sliceK (G : Nat → Option (List D)) (t : TypeId) (f : Slots) (x : V) (lo hi mx : Option Operand) (K : V → Option α) : Option α := match x with
  | .d (.s s) => bif strT P t then (match mx with
    | some _ => none
    | none => bndK G f hi s.size s.size fun h => bndK G f lo 0 h fun l => K (.d (.s (s.extract l h)))) else none
  | .d .nsl => someK (sliceV P G t f (.d .nsl) lo hi mx) K
  | .d (.sl w xs) => bif elemT P t |>.any (fun e => sz P e == w && Nat.blt 0 w) then bndK G f hi xs.len xs.len fun h => bndK G f lo 0 h fun l => (match mx, hi with
        | none, _ => K (.d (.sl w (xs.cut l (h - l))))
        | some y, some _ => bndK G f (some y) xs.len xs.len fun m => bif m == h then K (.fl w (xs.cut l (h - l))) else none
        | _, _ => none) else none
  | .fl w xs => bif elemT P t |>.any (fun e => sz P e == w && Nat.blt 0 w) then (match mx with
    | none => bndK G f hi xs.len xs.len fun h => bndK G f lo 0 h fun l => bif h == xs.len then K (.fl w (xs.cut l (h - l))) else K (.d (.sl w (xs.cut l (h - l))))
    | some _ => none) else none
  | .ms id w off len => bif elemT P t |>.any (fun e => sz P e == w && Nat.blt 0 w) then (match mx with
    | none => bndK G f hi len len fun h => bndK G f lo 0 h fun l => K (.ms id w (off + l) (h - l))
    | some _ => none) else none
  | _ => none

/-- freezing -/
def frzB (hp : Heap) : V → Bool
  | .d _ => true
  | .ag cs => frzsB hp cs
  | .fn _ cs => frzsB hp cs
  | .ms id _ _ _ => match lk hp id with
    | .arr _ _ => true
    | .fz _ _ => true
    | _ => false
  | .mf id _ => match lk hp id with
    | .arr _ _ => true
    | .fz _ _ => true
    | _ => false
  | .fl _ _ => true
  | _ => false
where frzsB (hp : Heap) : List V → Bool
  | [] => true
  | v :: vs => frzB hp v && frzsB hp vs
def frzK {α : Type} (hp : Heap) (v : V) (K : D → Heap → Option α) : Option α := match v with
  | .d x => K x hp
  | .ms id w off len => match lk hp id with
    | .arr w' xs => bif Nat.ble (off + len) xs.len && w == w' then K (.sl w (xs.cut off len)) ((id, .fz w' xs) :: hp) else none
    | .fz w' xs => bif Nat.ble (off + len) xs.len && w == w' then K (.sl w (xs.cut off len)) hp else none
    | _ => none
  | .mf id w => match lk hp id with
    | .arr w' xs => bif w == w' then K (.sl w xs) ((id, .fz w' xs) :: hp) else none
    | .fz w' xs => bif w == w' then K (.sl w xs) hp else none
    | _ => none
  | .fl w xs => K (.sl w xs) hp
  | v => match frz hp v with
    | some (d, hp') => K d hp'
    | none => none
def frzsK {α : Type} : List V → Heap → (List D → Heap → Option α) → Option α
  | [], hp, K => K [] hp
  | v :: vs, hp, K => frzK hp v fun d hp' => frzsK vs hp' fun ds hp'' => K (d :: ds) hp''

/-- what holds of the slice that is appended -/
def elsK {α : Type} (e : TypeId) (u : TypeId) (hp : Heap) (x : V) (K : Nat → Ls → Option α) : Option α := match x with
  | .d (.s b) => bif strT P u && sz P e == 1 then K 1 (bytesL b) else none
  | .d (.sl w xs) => bif (elemT P u).isSome then K w xs else none
  | .d .nsl => bif (elemT P u).isSome then K 0 (.r []) else none
  | .fl w xs => bif (elemT P u).isSome then K w xs else none
  | .ms id w off len => bif (elemT P u).isSome then (match lk hp id with
    | .arr w' xs => bif Nat.ble (off + len) xs.len && w == w' then K w (xs.cut off len) else none
    | .fz w' xs => bif Nat.ble (off + len) xs.len && w == w' then K w (xs.cut off len) else none
    | _ => none) else none
  | .mf id w => bif (elemT P u).isSome then (match lk hp id with
    | .arr w' xs => bif w == w' then K w xs else none
    | .fz w' xs => bif w == w' then K w xs else none
    | _ => none) else none
  | _ => none
/-- is a list nothing? it is looked into -/
def nilLs {α : Type} (a : Ls) (z : Option α) (K : Ls → Option α) : Option α := match a with
  | .r xs => match xs with
    | [] => z
    | x :: xs => K (.r (x :: xs))
  | .t T l => match l with
    | [] => z
    | x :: l => K (.t T (x :: l))
def appendK {α : Type} (t u : TypeId) (s x : V) (n : Nat) (hp : Heap) (K : V → Nat → Heap → Option α) : Option α := match elemT P t with
  | some e => match zeroD P e with
    | some z => bif z.width == sz P e && Nat.blt 0 (sz P e) then elsK P e u hp x fun w ys =>
        nilLs ys (match s with
          | .d .nsl => K s n hp
          | .d (.sl _ _) => K s n hp
          | .fl _ _ => K s n hp
          | .mf _ _ => K s n hp
          | .ms _ _ _ _ => K s n hp
          | _ => none) fun ys => bif w == sz P e then (match s with
          | .d .nsl => bif Nat.ble ((0 + ys.len) * P.bytesOf e) 140737488355328 && Nat.ble (0 + ys.len) 140737488355328 then
              K (.mf n w) (n + 1) ((n, .arr w (ys.of P e)) :: hp) else none
          | .fl w' xs => bif w' == w && Nat.ble ((xs.len + ys.len) * P.bytesOf e) 140737488355328 && Nat.ble (xs.len + ys.len) 140737488355328 then
              K (.mf n w) (n + 1) ((n, .arr w (xs.app ys)) :: hp) else none
          | .mf id w' => match lk hp id with
            | .arr w'' xs => bif w' == w && w'' == w && Nat.ble ((xs.len + ys.len) * P.bytesOf e) 140737488355328 && Nat.ble (xs.len + ys.len) 140737488355328 then
                K (.mf n w) (n + 1) ((n, .arr w (xs.app ys)) :: (id, .dead) :: hp) else none
            | _ => none
          | .ms id w' off len => match lk hp id with
            | .arr w'' xs => bif w' == w && w'' == w && off == 0 && len == xs.len && Nat.ble ((xs.len + ys.len) * P.bytesOf e) 140737488355328 && Nat.ble (xs.len + ys.len) 140737488355328 then
                K (.mf n w) (n + 1) ((n, .arr w (xs.app ys)) :: (id, .dead) :: hp) else none
            | _ => none
          | _ => none) else none
      else none
    | none => none
  | none => none
def makeSliceK {α : Type} (t : TypeId) (len cap : V) (n : Nat) (hp : Heap) (K : V → Nat → Heap → Option α) : Option α := match elemT P t with
  | some e => match zeroD P e, len, cap with
    | some z, .d (.i _ l), .d (.i _ c) =>
      bif decide (0 ≤ l) && decide (l ≤ c) && decide ((P.bytesOf e : Int) * c ≤ 140737488355328) && decide (c ≤ 140737488355328) && z.width == sz P e && Nat.blt 0 (sz P e) then
        K (.mf n (sz P e)) (n + 1) ((n, .arr (sz P e) (repLs P e l.toNat z)) :: hp)
      else none
    | _, _, _ => none
  | none => none
def convK {α : Type} (src dst : TypeId) (x : V) (n : Nat) (hp : Heap) (K : V → Nat → Heap → Option α) : Option α := match x with
  | .d (.s s) => bif strT P dst then someK (convV P src dst (.d (.s s))) (fun v => K v n hp) else
      (match elemT P dst with
       | some e => bif strT P src && decide (intT P e = some .u8) && sz P e == 1 && Nat.ble s.size 140737488355328 then K (.mf n 1) (n + 1) ((n, .arr 1 (bytesL s)) :: hp) else none
       | none => none)
  | .d (.i k a) => someK (convV P src dst (.d (.i k a))) (fun v => K v n hp)
  | x => match elemT P src with
    | some e => bif strT P dst && decide (intT P e = some .u8) then elsK P e src hp x fun w xs => (match xs with
        | .r xs => bif (w == 1 || xs.isEmpty) && isBytes xs then K (.d (.s ⟨(bytesOf xs).toArray⟩)) n hp else none
        | .t (.i .u8) l => bif (w == 1) then K (.d (.s ⟨(octs l).toArray⟩)) n hp else none
        | _ => none) else none
    | none => none
end

/-- what is told of the functions that are called, and how a call in common memory is gone into -/
structure HK where
  G : Nat → Option (List D)
  ext : FuncId → Option (List D → Option (Bool × D))
  pc : FuncId → List D → Option D
  pk : FuncId → List D → {α : Type} → (D → Option α) → Option α
  call : FuncId → List V → Nat → Heap → {α : Type} → (V → Nat → Heap → Option α) → Option α
  inl : FuncId → Bool
def bare (f : List D → Option (Bool × D)) (ds : List D) : Option D := match f ds with
  | some (b, r) => bif b then some r else none
  | none => none
def HK.hs (H : HK) : Hs := ⟨H.G, fun g => (H.ext g).map bare, H.pc, fun _ _ _ _ => none, fun _ _ => none, H.inl⟩

section
variable {α : Type} (P : Program) (H : HK)
def callK (g : FuncId) (args : List V) (n : Nat) (hp : Heap) (K : V → Nat → Heap → Option α) : Option α := bif !H.inl g && frzB.frzsB hp args then
    frzsK args hp fun ds hp' => match H.ext g with
      | some f => match f ds with
        | some (b, r) => bif b then K (.d r) n hp' else none
        | none => none
      | none => H.pk g ds fun r => K (impD n hp' r).1 (impD n hp' r).2.1 (impD n hp' r).2.2
  else match H.ext g with
    | some _ => none
    | none => H.call g args n hp K
def opK (o : Oper) (f : Slots) (n : Nat) (hp : Heap) (K : V → Nat → Heap → Option α) : Option α := match o.op with
  | .pick c a b => match opV H.G f c with
    | .d (.b t) => bif t then K (opV H.G f a) n hp else K (opV H.G f b) n hp
    | _ => none
  | .binOp op t x y _ => bif (nilConst x || nilConst y) || !(mayNil (opV H.G f x) && mayNil (opV H.G f y)) then binK P op t (full hp (opV H.G f x)) (full hp (opV H.G f y)) (fun v => K v n hp) else none
  | .convert src dst x => convK P src dst (opV H.G f x) n hp K
  | .index t x i => indexK P t (opV H.G f x) (opV H.G f i) fun v => K v n hp
  | .indexAddr t x i => indexAddrK P t (full hp (opV H.G f x)) (opV H.G f i) fun v => K v n hp
  | .load t a => loadK P t hp (opV H.G f a) fun v => K v n hp
  | .store t a x => storeK P t hp (opV H.G f a) (opV H.G f x) fun hp' => K .junk n hp'
  | .slice t x lo hi mx => sliceK P H.G t f (full hp (opV H.G f x)) lo hi mx fun v => K v n hp
  | .makeSlice t l c => makeSliceK P t (opV H.G f l) (opV H.G f c) n hp K
  | .call c => match c.callee with
    | .builtin .len => match c.args.toList, c.argTypes.toList with
      | [x], [t] => someK (lenV P t (full hp (opV H.G f x))) fun v => K v n hp
      | _, _ => none
    | .builtin .append => match c.args.toList, c.argTypes.toList with
      | [s, x], [t, u] => appendK P t u (opV H.G f s) (opV H.G f x) n hp K
      | _, _ => none
    | .value g => match opV H.G f g with
      | .d (.fn g cs) => callK H g (c.args.toList.map (opV H.G f) ++ cs.map .d) n hp K
      | .fn g cs => callK H g (c.args.toList.map (opV H.G f) ++ cs) n hp K
      | _ => none
    | _ => none
  | _ => match evOp P H.hs o f n hp with
    | some (v, n, hp) => K v n hp
    | none => none

def stepK (o : Oper) (st : St) (K : St → Option α) : Option α := opK P H o st.f st.n st.h fun v n hp => K (St.put ⟨st.f, n, hp⟩ o.dst v)
def operK (all : List Oper) (o : Oper) (st : St) (K : St → Option α) : Option α := match o.guard with
  | none => stepK P H o st K
  | some (j, want) => match guardAt all j with
    | some t => match get st.f t with
      | .d (.b x) => bif x then (bif want then stepK P H o ⟨(t, .d (.b true)) :: st.f, st.n, st.h⟩ K else K (St.put ⟨(t, .d (.b true)) :: st.f, st.n, st.h⟩ o.dst (.d (.tp []))))
          else (bif want then K (St.put ⟨(t, .d (.b false)) :: st.f, st.n, st.h⟩ o.dst (.d (.tp []))) else stepK P H o ⟨(t, .d (.b false)) :: st.f, st.n, st.h⟩ K)
      | .d (.tp []) => K (st.put o.dst (.d (.tp [])))
      | _ => none
    | none => none
def opersK (all : List Oper) : List Oper → St → (St → Option α) → Option α
  | [], st, K => K st
  | o :: os, st, K => operK P H all o st fun st' => opersK all os st' K

/-- a slot of the records, told -/
def tellRc (t : Nat) (b : Bool) (rs : List Rc) : List Rc := rs.map fun r => { r with s := r.s.map fun x => bif x.1 == t then (x.1, .d (.b b)) else x }
def drawStepK (all : List Oper) (f0 : Slots) (n0 : Nat) (h0 : Heap) (rs : List Rc) (n : Nat) (o : Oper) (K : List Rc → Rc → Option α) : Option α := match ancB rs o.after.toList with
  | some A =>
    let vw (rs : List Rc) : Heap := viewH (A.testBit ·) rs h0 (seeOf H.G (selS (A.testBit ·) 0 rs ++ f0) o)
    let rc (rs : List Rc) (st' : St) : Rc := rcOf A o n (seeOf H.G (selS (A.testBit ·) 0 rs ++ f0) o) (vw rs) st'
    let fin (rs : List Rc) (st' : St) : Option α := bif okRc (A.testBit ·) n0 rs (rc rs st') then K rs (rc rs st') else none
    let step (rs : List Rc) : Option α := stepK P { H with call := fun _ _ _ _ _ _ => none } o ⟨selS (A.testBit ·) 0 rs ++ f0, n, vw rs⟩ (fin rs)
    let skip (rs : List Rc) : Option α := fin rs (St.put ⟨selS (A.testBit ·) 0 rs ++ f0, n, vw rs⟩ o.dst (.d (.tp [])))
    match o.guard with
    | none => step rs
    | some (j, want) => match guardAt all j with
      | some t => match get (selS (A.testBit ·) 0 rs ++ f0) t with
        | .d (.b x) => bif x then (bif want then step (tellRc t true rs) else skip (tellRc t true rs)) else (bif want then skip (tellRc t false rs) else step (tellRc t false rs))
        | .d (.tp []) => skip rs
        | _ => none
      | none => none
  | none => none
/-! what is known is written out: so that no later look has to work it out anew -/
def forceD (x : D) (K : D → Option α) : Option α := match x with
  | .b t => K (.b t)
  | .i k n => K (.i k n)
  | .s t => K (.s t)
  | .ag cs => K (.ag cs)
  | .tp vs => K (.tp vs)
  | .sl w xs => K (.sl w xs)
  | .nsl => K .nsl
  | x => K x
def forceV (v : V) (K : V → Option α) : Option α := match v with
  | .d x => forceD x fun x => K (.d x)
  | .pt a b => K (.pt a b)
  | .mf a b => K (.mf a b)
  | .ms a b c d => K (.ms a b c d)
  | .ep a b c d => K (.ep a b c d)
  | .rp cs c => K (.rp cs c)
  | .junk => K .junk
  | v => K v
def forceS (s : Slots) (K : Slots → Option α) : Option α := match s with
  | [] => K []
  | x :: r => match x with
    | (j, v) => forceV v fun v => forceS r fun r => K ((j, v) :: r)
def forceB (b : Blk) (K : Blk → Option α) : Option α := match b with
  | .box cs => K (.box cs)
  | .arr w xs => K (.arr w xs)
  | .fz w xs => K (.fz w xs)
  | .dead => K .dead
def forceH (s : Heap) (K : Heap → Option α) : Option α := match s with
  | [] => K []
  | x :: r => match x with
    | (j, b) => forceB b fun b => forceH r fun r => K ((j, b) :: r)
def forceN (n : Nat) (K : Nat → Option α) : Option α := match n with
  | 0 => K 0
  | k + 1 => K (k + 1)
def forceRc (r : Rc) (K : Rc → Option α) : Option α := forceS r.s fun s => forceH r.p fun p => forceN r.A fun A => forceN r.lo fun lo => forceN r.hi fun hi => match r.see with
  | none => K ⟨A, s, p, lo, hi, none⟩
  | some l => K ⟨A, s, p, lo, hi, some l⟩
def forceRs (rs : List Rc) (K : List Rc → Option α) : Option α := match rs with
  | [] => K []
  | r :: rs => forceRc r fun r => forceRs rs fun rs => K (r :: rs)
def drawGoK (all : List Oper) (f0 : Slots) (n0 : Nat) (h0 : Heap) : List Oper → List Rc → Nat → (List Rc → Nat → Option α) → Option α
  | [], rs, n, K => K rs n
  | o :: os, rs, n, K => drawStepK P H all f0 n0 h0 rs n o fun rs r => forceRs (rs ++ [r]) fun q => forceN r.hi fun hi => drawGoK all f0 n0 h0 os q hi K
def drawK (all : List Oper) (st : St) (K : St → Option α) : Option α := drawGoK P H all (junked all ++ st.f) st.n st.h all [] st.n fun rs n =>
  K ⟨selS (fun _ => true) 0 rs ++ (junked all ++ st.f), n, selH (fun _ => true) 0 rs ++ st.h⟩

/-- how many places: regions, forks, blocks, loops -/
def nodes : Code → Nat
  | .seq a b => nodes a + nodes b
  | .cond _ a b => 1 + nodes a + nodes b
  | .block _ c => 1 + nodes c
  | .loop _ => 1
  | .region _ _ _ => 1
  | _ => 0
/-- a piece of code, by its number -/
def nodeAt : Code → Nat → Option Code
  | .seq a b, k => bif Nat.blt k (nodes a) then nodeAt a k else nodeAt b (k - nodes a)
  | .cond c a b, k => bif k == 0 then some (.cond c a b) else bif Nat.blt (k - 1) (nodes a) then nodeAt a (k - 1) else nodeAt b (k - 1 - nodes a)
  | .block id c, k => bif k == 0 then some (.block id c) else nodeAt c (k - 1)
  | .loop c, k => bif k == 0 then some (.loop c) else none
  | .region a b c, k => bif k == 0 then some (.region a b c) else none
  | _, _ => none

/-- what is told of a piece of code -/
abbrev Summ := St → {α : Type} → (X → St → Option α) → Option α
inductive Told : Type 1 where
  | no
  | yes (s : Summ)
abbrev Loops := Nat → Told
def evK (L : Loops) : Code → Nat → St → (X → St → Option α) → Option α
  | .skip, _, st, K => K .n st
  | .region _ ops b, k, st, K => match L k with
    | .yes s => s st K
    | .no => match b with
      | false => opersK P H ops.toList ops.toList st fun st' => K .n st'
      | true => bif P.follows .mixedOrders then drawK P H ops.toList st fun st' => K .n st' else none
  | .seq a b, k, st, K => evK L a k st fun x st' => match x with
    | .n => evK L b (k + nodes a) st' K
    | x => K x st'
  | .cond c a b, k, st, K => match L k with
    | .yes s => s st K
    | .no => match opV H.G st.f c with
      | .d (.b t) => bif t then evK L a (k + 1) st K else evK L b (k + 1 + nodes a) st K
      | _ => none
  | .block id c, k, st, K => match L k with
    | .yes s => s st K
    | .no => evK L c (k + 1) st fun x st' => match x with
      | .exit j => bif j == id then K .n st' else K (.exit j) st'
      | x => K x st'
  | .loop c, k, st, K => match L k with
    | .yes s => s st K
    | .no => none
  | .exit id, _, st, K => K (.exit id) st
  | .ret, _, st, K => K .ret st
  | _, _, _, _ => none

def resK (st : St) : List ResultVar → (List V → Option α) → Option α
  | [], K => K []
  | .tmp t :: rs, K => resK st rs fun vs => K (get st.f t :: vs)
  | .cell a t :: rs, K => loadK P t st.h (get st.f a) fun v => resK st rs fun vs => K (v :: vs)
def finK (d : Fd) (x : X) (st : St) (K : V → Nat → Heap → Option α) : Option α := match x with
  | .n => resK P st d.res fun vs => K (oneV vs) st.n st.h
  | .ret => resK P st d.res fun vs => K (oneV vs) st.n st.h
  | _ => none
def bodyK (L : Loops) (g : FuncId) (args : List V) (n : Nat) (hp : Heap) (K : V → Nat → Heap → Option α) : Option α := match fnOf P g with
  | some d => bif Nat.ble args.length d.nt then evK P H L d.code 0 ⟨zipArgs 0 args, n, hp⟩ fun x st => finK P d x st K else none
  | none => none
end

/-- going out -/
def outK {α : Type} (hp : Heap) (v : V) (K : D → Heap → Option α) : Option α := match v with
  | .mf id w => match lk hp id with
    | .arr w' xs => bif w == w' then K (.fr w xs) ((id, .dead) :: hp) else none
    | _ => frzK hp v K
  | .ms id w off len => match lk hp id with
    | .arr w' xs => bif off == 0 && len == xs.len && w == w' then K (.fr w xs) ((id, .dead) :: hp) else frzK hp v K
    | _ => frzK hp v K
  | _ => frzK hp v K
def outsK {α : Type} : List V → Heap → (List D → Heap → Option α) → Option α
  | [], hp, K => K [] hp
  | v :: vs, hp, K => outK hp v fun d hp' => outsK vs hp' fun ds hp'' => K (d :: ds) hp''
def expK {α : Type} (hp : Heap) (v : V) (K : D → Option α) : Option α := match v with
  | .tp vs => outsK vs hp fun ds _ => K (.tp ds)
  | v => outK hp v fun d _ => K d
def pcallK {α : Type} (P : Program) (H : HK) (L : Loops) (g : FuncId) (ds : List D) (K : D → Option α) : Option α :=
  bodyK P H L g (ds.map .d) 0 [] fun v _ hp => expK hp v K

/-! what is told of functions: a table -/
structure Row where
  g : FuncId
  A : Type
  R : Type
  dec : List D → Option A
  F : A → Option R
  enc : R → D
def Row.f (w : Row) (ds : List D) : Option D := match w.dec ds with
  | some a => match w.F a with
    | some r => some (w.enc r)
    | none => none
  | none => none
def tabF : List Row → FuncId → List D → Option D
  | [], _, _ => none
  | w :: ws, g, ds => bif w.g == g then (match w.dec ds with
    | some a => match w.F a with
      | some r => some (w.enc r)
      | none => none
    | none => tabF ws g ds) else tabF ws g ds
def tabK : List Row → FuncId → List D → {α : Type} → (D → Option α) → Option α
  | [], _, _, _, _ => none
  | w :: ws, g, ds, _, K => bif w.g == g then (match w.dec ds with
    | some a => (w.F a).bind fun r => K (w.enc r)
    | none => tabK ws g ds K) else tabK ws g ds K

def hasRow : List Row → FuncId → Bool
  | [], _ => false
  | w :: ws, g => bif w.g == g then true else hasRow ws g
def inlOf (E : FuncId → Option (List D → Option (Bool × D))) (T : List Row) (g : FuncId) : Bool := bif hasRow T g then false else match E g with
  | some _ => false
  | none => true
/-- how deep calls in common memory are gone into -/
def hk (P : Program) (G : Nat → Option (List D)) (E : FuncId → Option (List D → Option (Bool × D))) (T : List Row) (L : FuncId → Nat → Loops) : Nat → HK
  | 0 => ⟨G, E, tabF T, tabK T, fun _ _ _ _ _ _ => none, inlOf E T⟩
  | k + 1 => ⟨G, E, tabF T, tabK T, fun g args n hp _ K => bodyK P (hk P G E T L k) (L g n) g args n hp K, inlOf E T⟩
end Go.Fw
end
section
/- What the tree of the plain evaluator says is so: the operations. By this session. -/
set_option linter.unusedVariables false
set_option linter.unusedSimpArgs false
namespace Go.Fw
variable {P : Program} {α : Type} {r : α}

theorem someK_sound {x : Option V} {K : V → Option α} (h : someK x K = some r) : ∃ v, x = some v ∧ K v = some r := by
  unfold someK at h
  split at h
  · exact ⟨_, rfl, h⟩
  · cases h
theorem leafK_sound {z x : D} {K : D → Option α} (h : leafK z x K = some r) : K x = some r := by
  unfold leafK at h
  split at h
  · obtain ⟨h1, h2⟩ := cond_some h
    cases x <;> first | (cases h1; done) | exact h2
  · obtain ⟨h1, h2⟩ := cond_some h
    cases x <;> first | (cases h1; done) | skip
    simp only [isI, decide_eq_true_eq] at h1
    subst h1
    exact h2
  · obtain ⟨h1, h2⟩ := cond_some h
    cases x <;> first | (cases h1; done) | exact h2
  · cases hx : isNsl x <;> rw [hx] at h
    · obtain ⟨h1, h2⟩ := cond_some h
      cases x <;> first | (cases h1; done) | exact h2
    · cases x <;> first | (cases hx; done) | exact h
  · exact h
theorem cellsK_sound {cs : List D} : ∀ {zs : List D} {c : Nat} {K : List D → Option α}, cellsK cs zs c K = some r → c + zs.length ≤ cs.length → K ((cs.drop c).take zs.length) = some r
  | [], c, K, h, _ => by simpa [cellsK] using h
  | z :: zs, c, K, h, hl => by
    simp only [cellsK] at h
    have h1 := leafK_sound h
    simp only [List.length_cons] at hl
    have h2 := cellsK_sound h1 (by omega)
    have hc : c < cs.length := by omega
    rw [List.length_cons, List.drop_eq_getElem_cons hc, List.take_succ_cons]
    have : cs.getD c .nsl = cs[c] := by simp [hc]
    rw [this] at h2
    exact h2
theorem partK_sound {t : TypeId} {cs : List D} {off : Nat} {K : D → Option α} (h : partK P t cs off K = some r) : ∃ d, partD P t cs off = some d ∧ K d = some r := by
  unfold partK at h
  unfold partD
  split at h
  · rename_i zs ha _
    obtain ⟨h1, h2⟩ := cond_some h
    rw [Bool.and_eq_true] at h1
    have hz : zs.length = sz P t := by simpa using h1.1
    have hle := Nat.le_of_ble_eq_true h1.2
    rw [ha]
    simp only [h1.2, cond_true]
    exact ⟨_, rfl, by rw [← hz]; exact cellsK_sound h2 (by omega)⟩
  · rename_i z ha _
    obtain ⟨h1, h2⟩ := cond_some h
    have hlt : off < cs.length := by simpa [Nat.blt_eq] using h1
    rw [ha]
    refine ⟨cs[off], by simp [hlt], ?_⟩
    have h3 := leafK_sound h2
    have : cs.getD off .nsl = cs[off] := by simp [hlt]
    rw [this] at h3
    exact h3
  · cases h
theorem getD_of {xs : List D} {k : Nat} (h : Nat.blt k xs.length = true) : xs[k]? = some (xs.getD k .nsl) := by
  have hlt : k < xs.length := by simpa [Nat.blt_eq] using h
  simp [hlt]
theorem Ls.at_rd {xs : Ls} {k : Nat} (h : Nat.blt k xs.len = true) : xs.at? k = some (xs.rd k) := by
  rw [Ls.at_xs]; exact Ls.rd_xs (by simpa [Nat.blt_eq] using h)
theorem loadK_sound {t : TypeId} {hp : Heap} {a : V} {K : V → Option α} (h : loadK P t hp a K = some r) : ∃ v, loadV P t hp a = some v ∧ K v = some r := by
  unfold loadK at h
  split at h
  · exact someK_sound h
  · split at h
    · rename_i w' xs hb
      obtain ⟨h1, h2⟩ := cond_some h
      rw [Bool.and_eq_true] at h1
      obtain ⟨d, h3, h4⟩ := partK_sound h2
      simp only [loadV, hb, h1.1, Ls.at_rd h1.2, cond_true, h3, Option.map_some]
      exact ⟨_, rfl, h4⟩
    · rename_i w' xs hb
      obtain ⟨h1, h2⟩ := cond_some h
      rw [Bool.and_eq_true] at h1
      obtain ⟨d, h3, h4⟩ := partK_sound h2
      simp only [loadV, hb, h1.1, Ls.at_rd h1.2, cond_true, h3, Option.map_some]
      exact ⟨_, rfl, h4⟩
    · cases h
  · obtain ⟨d, h3, h4⟩ := partK_sound h
    simp only [loadV, h3, Option.map_some]
    exact ⟨_, rfl, h4⟩
  · cases h
theorem storeK_sound {t : TypeId} {hp : Heap} {a v : V} {K : Heap → Option α} (h : storeK P t hp a v K = some r) : ∃ hp', storeV P t hp a v = some hp' ∧ K hp' = some r := by
  unfold storeK at h
  split at h
  · rename_i id w k o
    obtain ⟨h1, h2⟩ := cond_some h
    split at h2
    · rename_i w' T l hb
      obtain ⟨h3, h4⟩ := cond_some h2
      rw [Bool.and_eq_true] at h3
      have hat : (Ls.t T l).at? k = some (T.elt (l.getD k T.dflt)) := Ls.at_rd (xs := .t T l) h3.2
      split at h4
      · rename_i ds hds
        split at h4
        · rename_i x' hx
          exact ⟨_, by simp only [storeV, h1, cond_true, hb, h3.1, hat, hds, hx], h4⟩
        · cases h4
      · cases h4
    · rename_i w' xs hb
      obtain ⟨h3, h4⟩ := cond_some h2
      rw [Bool.and_eq_true, Bool.and_eq_true] at h3
      obtain ⟨⟨h3w, h3k⟩, h3o⟩ := h3
      have ho : o = 0 := by simpa using h3o
      subst ho
      have hat : (Ls.r xs).at? k = some (xs.getD k .nsl) := getD_of h3k
      split at h4
      · rename_i ds hds
        simp only [storeV, h1, cond_true, hb, h3w, hat, hds]
        split at h4
        · obtain ⟨h5, h6⟩ := cond_some h4
          generalize xs.getD k .nsl = x at h5 h6
          cases x with
          | ag cs =>
            have hl : cs.length = ds.length := by simpa [isAg] using h5
            have hb2 : Nat.ble (0 + ds.length) cs.length = true := Nat.ble_eq_true_of_le (by omega)
            simp only [reD, hb2, cond_true]
            refine ⟨_, rfl, ?_⟩
            have : lay cs 0 ds = ds := by
              unfold lay
              rw [List.take_zero, List.nil_append, Nat.zero_add, List.drop_eq_nil_of_le (by omega), List.append_nil]
            rw [this]; exact h6
          | _ => cases h5
        · split at h4
          · obtain ⟨h5, h6⟩ := cond_some h4
            rw [Bool.and_eq_true] at h5
            generalize xs.getD k .nsl = x at h5 h6
            cases x with
            | ag cs => cases h5.1
            | _ => exact ⟨_, by simp only [reD, h5.2, cond_true]; rfl, h6⟩
          · cases h4
        · cases h4
      · cases h4
    · cases h2
  · split at h
    · rename_i hp' hs
      exact ⟨hp', hs, h⟩
    · cases h
theorem eqFldsB_sound {e e' : TypeId → D → D → Option Bool} (he : ∀ t x y b, e t x y = some b → e' t x y = some b) {xs ys : List D} : ∀ {fs : List Field} {b : Bool}, eqFldsB P e xs ys fs = some b → eqFlds P e' xs ys fs = some b
  | [], b, h => h
  | f :: fs, b, h => by
    simp only [eqFldsB] at h
    simp only [eqFlds]
    cases hn : (f.name != "_") <;> rw [hn] at h
    · simp only [cond_false] at h ⊢
      exact eqFldsB_sound he h
    · simp only [cond_true] at h ⊢
      split at h
      · rename_i x y h1 h2
        split at h
        · rename_i t u h3 h4
          injection h with h
          rw [h1, h2]
          simp only [he _ _ _ _ h3]
          cases t
          · simp only [Bool.false_and] at h; subst h; rfl
          · simp only [Bool.true_and] at h; subst h; exact eqFldsB_sound he h4
        · cases h
      · cases h
theorem eqTB_sound : ∀ {n : Nat} {t : TypeId} {x y : D} {b : Bool}, eqTB P n t x y = some b → eqT P n t x y = some b
  | 0, t, x, y, b, h => by cases h
  | n + 1, t, x, y, b, h => by
    simp only [eqTB] at h
    simp only [eqT]
    split at h
    · split at h
      · rename_i fs hfs
        cases hs : P.stoodInHeld t <;> rw [hs] at h
        · simp only [cond_false] at h
          rw [hfs]
          simp only [hs, cond_false]
          exact eqFldsB_sound (fun t x y b h => eqTB_sound h) h
        · cases h
      · cases h
    · rename_i hne
      split
      · rename_i xs ys; exact absurd rfl (hne xs ys rfl)
      · exact h
theorem binK_sound {op : BinOp} {t : TypeId} {x y : V} {K : V → Option α} (h : binK P op t x y K = some r) : ∃ v, binV P op t x y = some v ∧ K v = some r := by
  unfold binK at h
  split at h
  · rename_i k a k' c
    split at h
    · obtain ⟨h1, h2⟩ := cond_none h
      exact ⟨_, by simp only [binV, shiftI, h1, cond_false, Option.map_some], h2⟩
    · obtain ⟨h1, h2⟩ := cond_none h
      exact ⟨_, by simp only [binV, shiftI, h1, cond_false, Option.map_some], h2⟩
    · obtain ⟨h0, h⟩ := cond_some h
      obtain ⟨h1, h2⟩ := cond_none h
      exact ⟨_, by simp only [binV, binI, h0, h1, cond_false, cond_true, Option.map_some], h2⟩
    · obtain ⟨h0, h⟩ := cond_some h
      obtain ⟨h1, h2⟩ := cond_none h
      exact ⟨_, by simp only [binV, binI, h0, h1, cond_false, cond_true, Option.map_some], h2⟩
    · exact someK_sound h
  · split at h
    · obtain ⟨h1, h2⟩ := cond_some h
      exact ⟨_, by simp only [binV, binS, h1, cond_true, Option.map_some], h2⟩
    · exact someK_sound h
  · rename_i xs ys
    obtain ⟨h1, h2⟩ := cond_none h
    split at h2
    · split at h2
      · rename_i b hb
        exact ⟨_, by simp only [binV, eqV, h1, cond_false, eqTB_sound hb, Option.map_some], h2⟩
      · cases h2
    · split at h2
      · rename_i b hb
        exact ⟨_, by simp only [binV, eqV, h1, cond_false, eqTB_sound hb, Option.map_some], h2⟩
      · cases h2
    · cases h2
  · exact someK_sound h
theorem asNatK_sound {n : Int} {m : Nat} {K : Nat → Option α} (h : asNatK n m K = some r) : asNat n m = some n.toNat ∧ n.toNat < m ∧ K n.toNat = some r := by
  unfold asNatK at h
  obtain ⟨h1, h2⟩ := cond_some h
  have h3 := h1
  rw [Bool.and_eq_true, decide_eq_true_eq, decide_eq_true_eq] at h3
  exact ⟨by simp only [asNat, h1, cond_true], by omega, h2⟩
theorem bndK_sound {G : Nat → Option (List D)} {f : Slots} {o : Option Operand} {d m : Nat} {K : Nat → Option α} (h : bndK G f o d m K = some r) : ∃ j, bnd G f o d m = some j ∧ K j = some r := by
  unfold bndK at h
  unfold bnd
  split at h
  · exact ⟨_, rfl, h⟩
  · split at h
    · rename_i hx
      obtain ⟨h1, h2⟩ := cond_some h
      simp only [hx, h1, cond_true]
      exact ⟨_, rfl, h2⟩
    · cases h
theorem indexK_sound {t : TypeId} {x i : V} {K : V → Option α} (h : indexK P t x i K = some r) : ∃ v, indexV P t x i = some v ∧ K v = some r := by
  unfold indexK at h
  split at h
  · split at h
    · obtain ⟨h1, h2⟩ := cond_some h
      obtain ⟨h3, h4, h5⟩ := asNatK_sound h2
      exact ⟨_, by simp only [indexV, h1, cond_true, h3], h5⟩
    · split at h
      · rename_i len e ha
        obtain ⟨h3, h4, h5⟩ := asNatK_sound h
        obtain ⟨d, h6, h7⟩ := partK_sound h5
        exact ⟨_, by simp only [indexV, ha, h3, h6, Option.map_some], h7⟩
      · cases h
    · exact someK_sound h
  · cases h
theorem indexAddrK_sound {t : TypeId} {x i : V} {K : V → Option α} (h : indexAddrK P t x i K = some r) : ∃ v, indexAddrV P t x i = some v ∧ K v = some r := by
  have get : ∀ {xs : Ls} {j : Nat}, j < xs.len → xs.at? j = some (xs.rd j) := fun {xs j} h => Ls.at_rd (by rw [Nat.blt_eq]; exact h)
  unfold indexAddrK at h
  split at h
  · split at h
    · rename_i e he
      split at h
      · obtain ⟨h1, h2⟩ := cond_some h
        obtain ⟨h3, h4, h5⟩ := asNatK_sound h2
        exact ⟨_, by simp only [indexAddrV, he, h1, cond_true, h3, get h4], h5⟩
      · obtain ⟨h1, h2⟩ := cond_some h
        obtain ⟨h3, h4, h5⟩ := asNatK_sound h2
        exact ⟨_, by simp only [indexAddrV, he, h1, cond_true, h3, get h4], h5⟩
      · obtain ⟨h1, h2⟩ := cond_some h
        obtain ⟨h3, h4, h5⟩ := asNatK_sound h2
        exact ⟨_, by simp only [indexAddrV, he, h1, cond_true, h3], h5⟩
      · cases h
    · rename_i he
      split at h
      · rename_i len e ha
        split at h
        · obtain ⟨h1, h2⟩ := cond_some h
          obtain ⟨h3, h4, h5⟩ := asNatK_sound h2
          exact ⟨_, by simp only [indexAddrV, he, ha, h1, cond_true, h3], h5⟩
        · obtain ⟨h1, h2⟩ := cond_some h
          obtain ⟨h3, h4, h5⟩ := asNatK_sound h2
          exact ⟨_, by simp only [indexAddrV, he, ha, h1, cond_true, h3], h5⟩
        · cases h
      · cases h
  · cases h
theorem sliceK_sound {G : Nat → Option (List D)} {t : TypeId} {f : Slots} {x : V} {lo hi mx : Option Operand} {K : V → Option α} (h : sliceK P G t f x lo hi mx K = some r) : ∃ v, sliceV P G t f x lo hi mx = some v ∧ K v = some r := by
  unfold sliceK at h
  split at h
  · obtain ⟨h1, h⟩ := cond_some h
    split at h
    · cases h
    · obtain ⟨a, h2, h⟩ := bndK_sound h
      obtain ⟨b, h3, h⟩ := bndK_sound h
      exact ⟨_, by simp only [sliceV, h1, cond_true, h2, h3], h⟩
  · exact someK_sound h
  · obtain ⟨h1, h⟩ := cond_some h
    obtain ⟨a, h2, h⟩ := bndK_sound h
    obtain ⟨b, h3, h⟩ := bndK_sound h
    split at h
    · exact ⟨_, by simp only [sliceV, h1, cond_true, h2, h3], h⟩
    · obtain ⟨c, h4, h⟩ := bndK_sound h
      obtain ⟨h5, h⟩ := cond_some h
      exact ⟨_, by simp only [sliceV, h1, cond_true, h2, h3, h4, h5], h⟩
    · cases h
  · rename_i w xs
    obtain ⟨h1, h⟩ := cond_some h
    split at h
    · obtain ⟨a, h2, h⟩ := bndK_sound h
      obtain ⟨b, h3, h⟩ := bndK_sound h
      cases hb : (a == xs.len) <;> rw [hb] at h
      · exact ⟨_, by simp only [sliceV, h1, cond_true, h2, h3, hb, cond_false], h⟩
      · exact ⟨_, by simp only [sliceV, h1, cond_true, h2, h3, hb], h⟩
    · cases h
  · obtain ⟨h1, h⟩ := cond_some h
    split at h
    · obtain ⟨a, h2, h⟩ := bndK_sound h
      obtain ⟨b, h3, h⟩ := bndK_sound h
      exact ⟨_, by simp only [sliceV, h1, cond_true, h2, h3], h⟩
    · cases h
  · cases h
theorem frzK_sound {hp : Heap} {v : V} {K : D → Heap → Option α} (h : frzK hp v K = some r) : ∃ d hp', frz hp v = some (d, hp') ∧ K d hp' = some r := by
  unfold frzK at h
  split at h
  · exact ⟨_, _, rfl, h⟩
  · split at h
    · rename_i w' xs hb
      obtain ⟨h1, h⟩ := cond_some h
      exact ⟨_, _, by simp only [frz, hb, h1, cond_true], h⟩
    · rename_i w' xs hb
      obtain ⟨h1, h⟩ := cond_some h
      exact ⟨_, _, by simp only [frz, hb, h1, cond_true], h⟩
    · cases h
  · split at h
    · rename_i w' xs hb
      obtain ⟨h1, h⟩ := cond_some h
      exact ⟨_, _, by simp only [frz, hb, h1, cond_true], h⟩
    · rename_i w' xs hb
      obtain ⟨h1, h⟩ := cond_some h
      exact ⟨_, _, by simp only [frz, hb, h1, cond_true], h⟩
    · cases h
  · exact ⟨_, _, rfl, h⟩
  · split at h
    · rename_i d hp' hf
      exact ⟨d, hp', hf, h⟩
    · cases h
theorem frzsK_sound : ∀ {vs : List V} {hp : Heap} {K : List D → Heap → Option α}, frzsK vs hp K = some r → ∃ ds hp', frzs hp vs = some (ds, hp') ∧ K ds hp' = some r
  | [], hp, K, h => ⟨_, _, rfl, h⟩
  | v :: vs, hp, K, h => by
    simp only [frzsK] at h
    obtain ⟨d, hp', h1, h2⟩ := frzK_sound h
    obtain ⟨ds, hp'', h3, h4⟩ := frzsK_sound h2
    exact ⟨_, _, by simp only [frzs, h1, h3], h4⟩
end Go.Fw
end
section
/- What the tree of the plain evaluator says is so: appending, making, turning, calling; each operation. By this session. -/
set_option linter.unusedVariables false
set_option linter.unusedSimpArgs false
namespace Go.Fw
variable {P : Program} {α : Type} {r : α}

theorem elsK_sound {e u : TypeId} {hp : Heap} {x : V} {K : Nat → Ls → Option α} (h : elsK P e u hp x K = some r) : ∃ w xs, elsV P e u hp x = some (w, xs) ∧ K w xs = some r := by
  unfold elsK at h
  split at h
  · obtain ⟨h1, h⟩ := cond_some h
    exact ⟨_, _, by simp only [elsV, h1, cond_true], h⟩
  · obtain ⟨h1, h⟩ := cond_some h
    exact ⟨_, _, by simp only [elsV, h1, cond_true, sliceOf], h⟩
  · obtain ⟨h1, h⟩ := cond_some h
    exact ⟨_, _, by simp only [elsV, h1, cond_true, sliceOf], h⟩
  · obtain ⟨h1, h⟩ := cond_some h
    exact ⟨_, _, by simp only [elsV, h1, cond_true, sliceOf], h⟩
  · obtain ⟨h1, h⟩ := cond_some h
    split at h
    · rename_i w' xs hb
      obtain ⟨h2, h⟩ := cond_some h
      exact ⟨_, _, by simp only [elsV, h1, cond_true, sliceOf, hb, h2], h⟩
    · rename_i w' xs hb
      obtain ⟨h2, h⟩ := cond_some h
      exact ⟨_, _, by simp only [elsV, h1, cond_true, sliceOf, hb, h2], h⟩
    · cases h
  · obtain ⟨h1, h⟩ := cond_some h
    split at h
    · rename_i w' xs hb
      obtain ⟨h2, h⟩ := cond_some h
      exact ⟨_, _, by simp only [elsV, h1, cond_true, sliceOf, hb, h2], h⟩
    · rename_i w' xs hb
      obtain ⟨h2, h⟩ := cond_some h
      exact ⟨_, _, by simp only [elsV, h1, cond_true, sliceOf, hb, h2], h⟩
    · cases h
  · cases h
theorem nilLs_is {a : Ls} {z : Option α} {K : Ls → Option α} : nilLs a z K = bif a.nil then z else K a := by
  cases a with
  | r xs => cases xs <;> rfl
  | t T l => cases l <;> rfl
theorem appendK_sound {t u : TypeId} {s x : V} {n : Nat} {hp : Heap} {K : V → Nat → Heap → Option α} (h : appendK P t u s x n hp K = some r) : ∃ v n' hp', appendV P t u s x n hp = some (v, n', hp') ∧ K v n' hp' = some r := by
  unfold appendK at h
  split at h
  · rename_i e he
    split at h
    · rename_i z hz
      obtain ⟨h1, h⟩ := cond_some h
      obtain ⟨w, ys, h2, h⟩ := elsK_sound h
      unfold appendV
      simp only [he, hz, h1, cond_true, h2]
      rw [nilLs_is] at h
      cases hn : ys.nil <;> rw [hn] at h
      rotate_left
      · simp only [cond_true] at h ⊢
        split at h
        · exact ⟨_, _, _, rfl, h⟩
        · exact ⟨_, _, _, rfl, h⟩
        · exact ⟨_, _, _, rfl, h⟩
        · exact ⟨_, _, _, rfl, h⟩
        · exact ⟨_, _, _, rfl, h⟩
        · cases h
      · simp only [cond_false] at h ⊢
        obtain ⟨h3, h⟩ := cond_some h
        simp only [h3, cond_true]
        split at h
        · obtain ⟨h4, h⟩ := cond_some h
          exact ⟨_, _, _, by simp only [h4, cond_true], h⟩
        · obtain ⟨h4, h⟩ := cond_some h
          exact ⟨_, _, _, by simp only [h4, cond_true], h⟩
        · split at h
          · rename_i w'' xs hb
            obtain ⟨h4, h⟩ := cond_some h
            exact ⟨_, _, _, by simp only [hb, h4, cond_true], h⟩
          · cases h
        · split at h
          · rename_i w'' xs hb
            obtain ⟨h4, h⟩ := cond_some h
            exact ⟨_, _, _, by simp only [hb, h4, cond_true], h⟩
          · cases h
        · cases h
    · cases h
  · cases h
theorem makeSliceK_sound {t : TypeId} {l c : V} {n : Nat} {hp : Heap} {K : V → Nat → Heap → Option α} (h : makeSliceK P t l c n hp K = some r) : ∃ v n' hp', makeSliceV P t l c n hp = some (v, n', hp') ∧ K v n' hp' = some r := by
  unfold makeSliceK at h
  split at h
  · rename_i e he
    split at h
    · rename_i hz
      obtain ⟨h1, h⟩ := cond_some h
      exact ⟨_, _, _, by simp only [makeSliceV, he, hz, h1, cond_true], h⟩
    · cases h
  · cases h
theorem strOf_of : ∀ {xs : List D}, isBytes xs = true → strOf xs = some (bytesOf xs)
  | [], _ => rfl
  | d :: xs, h => by
    cases d with
    | i k n =>
      cases k <;> first | (simp [isBytes] at h; done) | skip
      simp only [isBytes] at h
      simp only [strOf, strOf_of h, bytesOf, iOf, Option.map_some]
    | _ => simp [isBytes] at h
def convOut (P : Program) (src dst : TypeId) (x : V) (n : Nat) (hp : Heap) : Out := match x with
    | .d (.s s) => bif strT P dst then pure1 n hp (convV P src dst (.d (.s s))) else
        (match elemT P dst with
         | some e => bif strT P src && decide (intT P e = some .u8) && sz P e == 1 && Nat.ble s.size 140737488355328 then some (.mf n 1, n + 1, (n, .arr 1 (bytesL s)) :: hp) else none
         | none => none)
    | .d (.i k a) => pure1 n hp (convV P src dst (.d (.i k a)))
    | x => match elemT P src with
      | some e => bif strT P dst && decide (intT P e = some .u8) then (match sliceOf hp x with
        | some (w, xs) => bif w == 1 || xs.nil then pure1 n hp ((strL xs).map fun l => .d (.s ⟨l.toArray⟩)) else none
        | none => none) else none
      | none => none
theorem pure1_of {v : Option V} {x : V} {n : Nat} {hp : Heap} (h : v = some x) : pure1 n hp v = some (x, n, hp) := by subst h; rfl
theorem convK_sound {src dst : TypeId} {x : V} {n : Nat} {hp : Heap} {K : V → Nat → Heap → Option α} (h : convK P src dst x n hp K = some r) : ∃ v n' hp', convOut P src dst x n hp = some (v, n', hp') ∧ K v n' hp' = some r := by
  unfold convK at h
  split at h
  · rename_i s
    cases hs : strT P dst <;> rw [hs] at h
    · simp only [cond_false] at h
      split at h
      · rename_i e he
        obtain ⟨h1, h⟩ := cond_some h
        exact ⟨_, _, _, by simp only [convOut, hs, cond_false, he, h1, cond_true], h⟩
      · cases h
    · simp only [cond_true] at h
      obtain ⟨v, h1, h⟩ := someK_sound h
      exact ⟨_, _, _, by simp only [convOut, hs, cond_true, pure1_of h1], h⟩
  · obtain ⟨v, h1, h⟩ := someK_sound h
    exact ⟨_, _, _, by simp only [convOut, pure1_of h1], h⟩
  · rename_i hx1 hx2
    split at h
    · rename_i e he
      obtain ⟨h1, h⟩ := cond_some h
      obtain ⟨w, xs, h2, h⟩ := elsK_sound h
      have hsl : sliceOf hp x = some (w, xs) := by
        unfold elsV at h2
        split at h2
        · exact (hx1 _ rfl).elim
        · exact (cond_some h2).2
      have fin : ∀ {l : List UInt8}, (w == 1 || xs.nil) = true → strL xs = some l → convOut P src dst x n hp = some (.d (.s ⟨l.toArray⟩), n, hp) := by
        intro l h3 h4
        unfold convOut
        split
        · exact (hx1 _ rfl).elim
        · exact (hx2 _ _ rfl).elim
        · simp only [he, h1, cond_true, hsl, h3, h4, Option.map_some, pure1]
      split at h
      · obtain ⟨h3, h⟩ := cond_some h
        rw [Bool.and_eq_true] at h3
        exact ⟨_, _, _, fin h3.1 (strOf_of h3.2), h⟩
      · obtain ⟨h3, h⟩ := cond_some h
        exact ⟨_, _, _, fin (by rw [h3]; rfl) rfl, h⟩
      · cases h
    · cases h

mutual
theorem frzB_of : ∀ (v : V) {hp hp' : Heap} {d : D}, frz hp v = some (d, hp') → ∀ hp0 : Heap, (∀ id, (∃ w xs, lk hp id = .arr w xs ∨ lk hp id = .fz w xs) → ∃ w xs, lk hp0 id = .arr w xs ∨ lk hp0 id = .fz w xs) → frzB hp0 v = true ∧ (∀ id, (∃ w xs, lk hp' id = .arr w xs ∨ lk hp' id = .fz w xs) → ∃ w xs, lk hp0 id = .arr w xs ∨ lk hp0 id = .fz w xs)
  | .d x, hp, hp', d, h, hp0, h0 => by
    simp only [frz, Option.some.injEq, Prod.mk.injEq] at h
    exact ⟨rfl, by rw [← h.2]; exact h0⟩
  | .ag cs, hp, hp', d, h, hp0, h0 => by
    simp only [frz] at h
    split at h
    · rename_i h1
      injection h with h; injection h with _ h; subst h
      exact frzsB_of cs h1 hp0 h0
    · cases h
  | .fn g cs, hp, hp', d, h, hp0, h0 => by
    simp only [frz] at h
    split at h
    · rename_i h1
      injection h with h; injection h with _ h; subst h
      exact frzsB_of cs h1 hp0 h0
    · cases h
  | .ms id w off len, hp, hp', d, h, hp0, h0 => by
    simp only [frz] at h
    split at h
    · rename_i w' xs hb
      obtain ⟨h1, h⟩ := cond_some h
      injection h with h; injection h with _ h; subst h
      obtain ⟨w0, xs0, h2⟩ := h0 id ⟨w', xs, .inl hb⟩
      refine ⟨by rcases h2 with h2 | h2 <;> simp [frzB, h2], fun id' hid => ?_⟩
      rw [lk_cons] at hid
      by_cases hii : id = id'
      · subst hii; exact ⟨w0, xs0, h2⟩
      · rw [if_neg hii] at hid; exact h0 id' hid
    · rename_i w' xs hb
      obtain ⟨h1, h⟩ := cond_some h
      injection h with h; injection h with _ h; subst h
      obtain ⟨w0, xs0, h2⟩ := h0 id ⟨w', xs, .inr hb⟩
      exact ⟨by rcases h2 with h2 | h2 <;> simp [frzB, h2], h0⟩
    · cases h
  | .mf id w, hp, hp', d, h, hp0, h0 => by
    simp only [frz] at h
    split at h
    · rename_i w' xs hb
      obtain ⟨h1, h⟩ := cond_some h
      injection h with h; injection h with _ h; subst h
      obtain ⟨w0, xs0, h2⟩ := h0 id ⟨w', xs, .inl hb⟩
      refine ⟨by rcases h2 with h2 | h2 <;> simp [frzB, h2], fun id' hid => ?_⟩
      rw [lk_cons] at hid
      by_cases hii : id = id'
      · subst hii; exact ⟨w0, xs0, h2⟩
      · rw [if_neg hii] at hid; exact h0 id' hid
    · rename_i w' xs hb
      obtain ⟨h1, h⟩ := cond_some h
      injection h with h; injection h with _ h; subst h
      obtain ⟨w0, xs0, h2⟩ := h0 id ⟨w', xs, .inr hb⟩
      exact ⟨by rcases h2 with h2 | h2 <;> simp [frzB, h2], h0⟩
    · cases h
  | .fl w xs, hp, hp', d, h, hp0, h0 => by
    simp only [frz, Option.some.injEq, Prod.mk.injEq] at h
    exact ⟨rfl, by rw [← h.2]; exact h0⟩
  | .tp _, hp, hp', d, h, _, _ => by simp [frz] at h
  | .pt _ _, hp, hp', d, h, _, _ => by simp [frz] at h
  | .ep _ _ _ _, hp, hp', d, h, _, _ => by simp [frz] at h
  | .rp _ _, hp, hp', d, h, _, _ => by simp [frz] at h
  | .junk, hp, hp', d, h, _, _ => by simp [frz] at h
theorem frzsB_of : ∀ (vs : List V) {hp hp' : Heap} {ds : List D}, frzs hp vs = some (ds, hp') → ∀ hp0 : Heap, (∀ id, (∃ w xs, lk hp id = .arr w xs ∨ lk hp id = .fz w xs) → ∃ w xs, lk hp0 id = .arr w xs ∨ lk hp0 id = .fz w xs) → frzB.frzsB hp0 vs = true ∧ (∀ id, (∃ w xs, lk hp' id = .arr w xs ∨ lk hp' id = .fz w xs) → ∃ w xs, lk hp0 id = .arr w xs ∨ lk hp0 id = .fz w xs)
  | [], hp, hp', d, h, hp0, h0 => by
    simp only [frzs, Option.some.injEq, Prod.mk.injEq] at h
    exact ⟨rfl, by rw [← h.2]; exact h0⟩
  | v :: vs, hp, hp', ds, h, hp0, h0 => by
    simp only [frzs] at h
    split at h
    · rename_i h1
      split at h
      · rename_i h2
        injection h with h; injection h with _ h; subst h
        obtain ⟨i1, i2⟩ := frzB_of v h1 hp0 h0
        obtain ⟨i3, i4⟩ := frzsB_of vs h2 hp0 i2
        exact ⟨by simp only [frzB.frzsB, i1, i3, Bool.and_self], i4⟩
      · cases h
    · cases h
end
theorem frzs_none {hp : Heap} {vs : List V} (h : frzB.frzsB hp vs = false) : frzs hp vs = none := by
  cases hf : frzs hp vs with
  | none => rfl
  | some q =>
    obtain ⟨ds, hp'⟩ := q
    have := (frzsB_of vs hf hp fun _ h => h).1
    rw [h] at this; cases this

theorem callK_sound {H : HK} (hpk : ∀ g ds (α : Type) (K : D → Option α), H.pk g ds K = (H.pc g ds).bind K) {g : FuncId} {args : List V} {n : Nat} {hp : Heap} {K : V → Nat → Heap → Option α} (h : callK H g args n hp K = some r) :
    (∃ v n' hp', callV H.hs g args n hp = some (v, n', hp') ∧ K v n' hp' = some r) ∨ ((bif H.inl g then none else frzs hp args) = none ∧ H.ext g = none ∧ H.call g args n hp K = some r) := by
  unfold callK at h
  cases hb : (!H.inl g && frzB.frzsB hp args) <;> rw [hb] at h
  · simp only [cond_false] at h
    refine .inr ⟨by
      cases hi : H.inl g
      · rw [hi] at hb; simp only [Bool.not_false, Bool.true_and] at hb; exact frzs_none hb
      · rfl, ?_⟩
    split at h
    · cases h
    · rename_i he; exact ⟨he, h⟩
  · simp only [cond_true] at h
    refine .inl ?_
    obtain ⟨ds, hp', h1, h⟩ := frzsK_sound h
    have hi : H.hs.inl g = false := by
      simp only [Bool.and_eq_true, Bool.not_eq_true'] at hb
      exact hb.1
    unfold callV
    simp only [h1, hi, cond_false]
    split at h
    · rename_i f hf
      split at h
      · rename_i b q hq
        obtain ⟨h2, h⟩ := cond_some h
        have : H.hs.ext g = some (bare f) := by simp only [HK.hs, hf, Option.map_some]
        exact ⟨_, _, _, by simp only [this, bare, hq, h2, cond_true], h⟩
      · cases h
    · rename_i hf
      rw [hpk] at h
      obtain ⟨q, hq, h⟩ := Option.bind_eq_some_iff.1 h
      have h3 : H.hs.ext g = none := by simp only [HK.hs, hf, Option.map_none]
      have h4 : H.hs.pcall g ds = some q := hq
      exact ⟨_, _, _, by simp only [h3, h4], h⟩

structure HKOK (P : Program) (H : HK) : Prop where
  ext : ∀ g f, H.ext g = some f → ExtOK P g (bare f)
  pc : ∀ g ds q, H.pc g ds = some q → Enters P g ∧ PCall P H.G g ds q
  pk : ∀ g ds (α : Type) (K : D → Option α), H.pk g ds K = (H.pc g ds).bind K
  call : ∀ g xs n hp (α : Type) (K : V → Nat → Heap → Option α) r, H.call g xs n hp K = some r → ∃ v n' hp', Enters P g ∧ MCall P H.G g xs n hp (v, n', hp') ∧ K v n' hp' = some r

theorem HKOK.hs {H : HK} (h : HKOK P H) : CallsOK P H.hs where
  ext := fun g f hf => by
    simp only [HK.hs] at hf
    obtain ⟨f', h1, rfl⟩ := Option.map_eq_some_iff.1 hf
    exact h.ext g f' h1
  pcall := fun g ds q hq => h.pc g ds q hq
  call := fun g xs n hp q hq => by cases hq
open Classical in
/-- one call in common memory, told -/
noncomputable def oneCall (h : Hs) (g : FuncId) (xs : List V) (n : Nat) (hp : Heap) (q : V × Nat × Heap) : Hs :=
  { h with call := fun g' xs' n' hp' => if g' = g ∧ xs' = xs ∧ n' = n ∧ hp' = hp then some q else none }

/-- an operation, by itself or by a call in common memory -/
def OpOK (P : Program) (H : HK) (o : Oper) (f : Slots) (n : Nat) (hp : Heap) (q : V × Nat × Heap) : Prop := ∃ h', CallsOK P h' ∧ h'.G = H.G ∧ evOp P h' o f n hp = some q

theorem opK_plain {H : HK} (hpk : ∀ g ds (α : Type) (K : D → Option α), H.pk g ds K = (H.pc g ds).bind K) {o : Oper} {f : Slots} {n : Nat} {hp : Heap} {K : V → Nat → Heap → Option α} (h : opK P H o f n hp K = some r) :
    (∃ v n' hp', evOp P H.hs o f n hp = some (v, n', hp') ∧ K v n' hp' = some r) ∨
    (∃ c gop g xs, o.op = .call c ∧ c.callee = .value gop ∧ ((∃ cs, opV H.G f gop = .d (.fn g cs) ∧ xs = c.args.toList.map (opV H.G f) ++ cs.map .d) ∨ ∃ cs, opV H.G f gop = .fn g cs ∧ xs = c.args.toList.map (opV H.G f) ++ cs) ∧
      (bif H.inl g then none else frzs hp xs) = none ∧ H.ext g = none ∧ H.call g xs n hp K = some r) := by
  have hG : H.hs.G = H.G := rfl
  unfold opK at h
  split at h
  · rename_i c a b ho
    left
    split at h
    · rename_i t ht
      cases t
      · exact ⟨_, _, _, by simp only [evOp, ho, hG, ht, cond_false], h⟩
      · exact ⟨_, _, _, by simp only [evOp, ho, hG, ht, cond_true], h⟩
    · cases h
  · rename_i op t x y _ ho
    left
    obtain ⟨hn, h⟩ := cond_some h
    obtain ⟨v, h1, h⟩ := binK_sound h
    exact ⟨_, _, _, by simp only [evOp, ho, hG, hn, cond_true, pure1_of h1], h⟩
  · rename_i src dst x ho
    left
    obtain ⟨v, n', hp', h1, h⟩ := convK_sound h
    refine ⟨v, n', hp', ?_, h⟩
    unfold evOp
    simp only [ho, hG]
    exact h1
  · rename_i ho
    left
    obtain ⟨v, h1, h⟩ := indexK_sound h
    exact ⟨_, _, _, by simp only [evOp, ho, hG, pure1_of h1], h⟩
  · rename_i ho
    left
    obtain ⟨v, h1, h⟩ := indexAddrK_sound h
    exact ⟨_, _, _, by simp only [evOp, ho, hG, pure1_of h1], h⟩
  · rename_i ho
    left
    obtain ⟨v, h1, h⟩ := loadK_sound h
    exact ⟨_, _, _, by simp only [evOp, ho, hG, pure1_of h1], h⟩
  · rename_i ho
    left
    obtain ⟨v, h1, h⟩ := storeK_sound h
    exact ⟨_, _, _, by simp only [evOp, ho, hG, h1], h⟩
  · rename_i ho
    left
    obtain ⟨v, h1, h⟩ := sliceK_sound h
    exact ⟨_, _, _, by simp only [evOp, ho, hG, pure1_of h1], h⟩
  · rename_i ho
    left
    obtain ⟨v, n', hp', h1, h⟩ := makeSliceK_sound h
    exact ⟨v, n', hp', by simp only [evOp, ho, hG, h1], h⟩
  · rename_i c ho
    split at h
    · rename_i hc
      left
      split at h
      · rename_i x t hx ht
        obtain ⟨v, h1, h⟩ := someK_sound h
        exact ⟨_, _, _, by simp only [evOp, ho, hG, hc, hx, ht, pure1_of h1], h⟩
      · cases h
    · rename_i hc
      left
      split at h
      · rename_i s x t u hx ht
        obtain ⟨v, n', hp', h1, h⟩ := appendK_sound h
        exact ⟨v, n', hp', by simp only [evOp, ho, hG, hc, hx, ht, h1], h⟩
      · cases h
    · rename_i gop hc
      split at h
      · rename_i g cs hg
        rcases callK_sound hpk h with ⟨v, n', hp', h1, h⟩ | ⟨h1, h2, h3⟩
        · left
          exact ⟨v, n', hp', by simp only [evOp, ho, hG, hc, calleeV, hg, h1], h⟩
        · right
          exact ⟨c, gop, g, _, ho, hc, .inl ⟨cs, hg, rfl⟩, h1, h2, h3⟩
      · rename_i g cs hg
        rcases callK_sound hpk h with ⟨v, n', hp', h1, h⟩ | ⟨h1, h2, h3⟩
        · left
          exact ⟨v, n', hp', by simp only [evOp, ho, hG, hc, calleeV, hg, h1], h⟩
        · right
          exact ⟨c, gop, g, _, ho, hc, .inr ⟨cs, hg, rfl⟩, h1, h2, h3⟩
      · cases h
    · cases h
  · left
    split at h
    · rename_i v n' hp' h1
      exact ⟨_, _, _, h1, h⟩
    · cases h

theorem opK_sound {H : HK} (hok : HKOK P H) {o : Oper} {f : Slots} {n : Nat} {hp : Heap} {K : V → Nat → Heap → Option α} (h : opK P H o f n hp K = some r) :
    ∃ v n' hp', OpOK P H o f n hp (v, n', hp') ∧ K v n' hp' = some r := by
  rcases opK_plain hok.pk h with ⟨v, n', hp', h1, h2⟩ | ⟨c, gop, g, xs, ho, hc, hx, hf, he, hcall⟩
  · exact ⟨v, n', hp', ⟨H.hs, hok.hs, rfl, h1⟩, h2⟩
  · obtain ⟨v, n', hp', hent, hm, hk⟩ := hok.call g xs n hp α K r hcall
    refine ⟨v, n', hp', ⟨oneCall H.hs g xs n hp (v, n', hp'), ⟨hok.hs.ext, hok.hs.pcall, ?_⟩, rfl, ?_⟩, hk⟩
    · intro g1 xs1 n1 hp1 q hq
      simp only [oneCall] at hq
      split at hq
      · rename_i heq
        obtain ⟨rfl, rfl, rfl, rfl⟩ := heq
        injection hq with hq
        subst hq
        exact ⟨hent, hm⟩
      · cases hq
    · have hcv : callV (oneCall H.hs g xs n hp (v, n', hp')) g xs n hp = some (v, n', hp') := by
        unfold callV
        have he' : (oneCall H.hs g xs n hp (v, n', hp')).ext g = none := by simp only [oneCall, HK.hs, he, Option.map_none]
        have hf' : (bif (oneCall H.hs g xs n hp (v, n', hp')).inl g then none else frzs hp xs) = none := hf
        simp only [hf', he']
        simp [oneCall]
      have hG : (oneCall H.hs g xs n hp (v, n', hp')).G = H.G := rfl
      rcases hx with ⟨cs, hg, rfl⟩ | ⟨cs, hg, rfl⟩
      · simp only [evOp, ho, hc, calleeV, hG, hg]; exact hcv
      · simp only [evOp, ho, hc, calleeV, hG, hg]; exact hcv
end Go.Fw
end
section
/- What the tree of the plain evaluator says is so: regions, code, functions. By this session. -/
set_option linter.unusedVariables false
set_option linter.unusedSimpArgs false
namespace Go.Fw
variable {P : Program} {α : Type} {r : α}

theorem SR.told {G : Nat → Option (List D)} {nt : Nat} {c : Cf} {st : St} {a : Act} (h : SR G nt c st a) {t : Nat} {v : V} (hg : get st.f t = v) : SR G nt c ⟨(t, v) :: st.f, st.n, st.h⟩ a := by
  refine ⟨h.g, ⟨h.s.glob, fun i => ?_⟩, h.h, h.size, h.defers⟩
  rw [get_cons]
  by_cases hi : t = i
  · subst hi; rw [if_pos rfl, ← hg]; exact h.s.get t
  · rw [if_neg hi]; exact h.s.get i

theorem stepK_sound {H : HK} (hok : HKOK P H) {o : Oper} {st : St} {K : St → Option α} (h : stepK P H o st K = some r) : ∃ h' st', CallsOK P h' ∧ h'.G = H.G ∧ step1 P h' o st = some st' ∧ K st' = some r := by
  obtain ⟨v, n', hp', ⟨h', h1, h2, h3⟩, h4⟩ := opK_sound hok h
  exact ⟨h', _, h1, h2, by simp only [step1, h3], h4⟩

/-- an operation with its guard, as it goes -/
def OperSem (P : Program) (G : Nat → Option (List D)) (nt : Nat) (all : Array Oper) (o : Oper) (st st' : St) : Prop :=
  ∀ (c : Cf) (a : Act) (K : Act → World → Prop) (Q : Exit → Act → World → Prop), SR G nt c st a →
    (∀ v c', Ext c st.n c' → st.n ≤ st'.n → SR G nt c' st' (a.put o.dst v) → K (a.put o.dst v) c'.w) →
    if Region.wanted o (yielded all a.tmps) then o.wp P a c.w K Q ∨ (o.asks P a c.w ∧ LetsOut Q) else K (a.put o.dst undef) c.w

theorem operSem_of {h' : Hs} (hok : CallsOK P h') {G : Nat → Option (List D)} (hG : h'.G = G) {nt : Nat} {all : Array Oper} (hall : ∀ o ∈ all.toList, ∀ d, o.dst = some d → d < nt) {o : Oper} (hin : o ∈ all.toList) {st st0 st' : St}
    (hst : ∀ c a, SR G nt c st a → SR G nt c st0 a) (hn : st0.n = st.n) (he : evOper P h' all.toList o st0 = some st') : OperSem P G nt all o st st' := by
  intro c a K Q hr hK
  subst hG
  refine evOper_wp hok hall hin he (hst c a hr) fun v c' hx hn' hr' => ?_
  rw [hn] at hx hn'
  exact hK v c' hx hn' hr'

theorem operK_sound {H : HK} (hok : HKOK P H) {nt : Nat} {all : Array Oper} (hall : ∀ o ∈ all.toList, ∀ d, o.dst = some d → d < nt) {o : Oper} (hin : o ∈ all.toList) {st : St} {K : St → Option α} (h : operK P H all.toList o st K = some r) :
    ∃ st', OperSem P H.G nt all o st st' ∧ K st' = some r := by
  unfold operK at h
  split at h
  · rename_i hg
    obtain ⟨h', st', h1, h2, h3, h4⟩ := stepK_sound hok h
    exact ⟨st', operSem_of h1 h2 hall hin (fun _ _ h => h) rfl (by simp only [evOper, hg]; exact h3), h4⟩
  · rename_i j want hg
    split at h
    · rename_i t ht
      split at h
      · rename_i x hx
        have told : ∀ b : Bool, x = b → (∀ c a, SR H.G nt c st a → SR H.G nt c ⟨(t, .d (.b b)) :: st.f, st.n, st.h⟩ a) := fun b hb c a hr => hr.told (by rw [hx, hb])
        have getT : ∀ b : Bool, get ((t, V.d (.b b)) :: st.f) t = .d (.b b) := fun b => by rw [get_cons, if_pos rfl]
        have stp : ∀ b : Bool, x = b → b = want → stepK P H o ⟨(t, .d (.b b)) :: st.f, st.n, st.h⟩ K = some r → ∃ st', OperSem P H.G nt all o st st' ∧ K st' = some r := by
          intro b hb hw h
          obtain ⟨h', st', h1, h2, h3, h4⟩ := stepK_sound hok h
          refine ⟨st', operSem_of h1 h2 hall hin (told b hb) rfl ?_, h4⟩
          simp only [evOper, hg, ht, getT, hw, beq_self_eq_true, cond_true]
          rw [← hw]; exact h3
        have skp : ∀ b : Bool, x = b → (b == want) = false → K (St.put ⟨(t, .d (.b b)) :: st.f, st.n, st.h⟩ o.dst (.d (.tp []))) = some r → ∃ st', OperSem P H.G nt all o st st' ∧ K st' = some r := by
          intro b hb hw h
          refine ⟨_, operSem_of hok.hs rfl hall hin (told b hb) rfl ?_, h⟩
          simp only [evOper, hg, ht, getT, hw, cond_false]
        cases x with
        | true =>
          simp only [cond_true] at h
          cases want with
          | true => simp only [cond_true] at h; exact stp true rfl rfl h
          | false => simp only [cond_false] at h; exact skp true rfl rfl h
        | false =>
          simp only [cond_false] at h
          cases want with
          | true => simp only [cond_true] at h; exact skp false rfl rfl h
          | false => simp only [cond_false] at h; exact stp false rfl rfl h
      · rename_i hx
        refine ⟨_, operSem_of hok.hs rfl hall hin (fun _ _ h => h) rfl ?_, h⟩
        simp only [evOper, hg, ht, hx]
      · cases h
    · cases h

theorem opersK_sound {H : HK} (hok : HKOK P H) {nt : Nat} {all : Array Oper} (hall : ∀ o ∈ all.toList, ∀ d, o.dst = some d → d < nt) : ∀ {os : List Oper} {st : St} {K : St → Option α}, (∀ o ∈ os, o ∈ all.toList) → opersK P H all.toList os st K = some r →
    ∃ st', (∀ (c : Cf) (a : Act) (Q : Exit → Act → World → Prop), SR H.G nt c st a → (∀ a' c', Ext c st.n c' → st.n ≤ st'.n → SR H.G nt c' st' a' → Q .normal a' c'.w) → wpList P all Q os a c.w) ∧ K st' = some r
  | [], st, K, hin, h => ⟨st, fun c a Q hr hQ => hQ a c (.refl c _) (Nat.le_refl _) hr, h⟩
  | o :: os, st, K, hin, h => by
    simp only [opersK] at h
    obtain ⟨st1, h1, h2⟩ := operK_sound hok hall (hin o List.mem_cons_self) h
    obtain ⟨st', h3, h4⟩ := opersK_sound hok hall (fun o ho => hin o (List.mem_cons_of_mem _ ho)) h2
    refine ⟨st', fun c a Q hr hQ => ?_, h4⟩
    unfold wpList
    exact h1 c a _ Q hr fun v c' hx hn hr' => h3 c' _ Q hr' fun a2 c2 hx2 hn2 hr2 => hQ a2 c2 (hx.trans hx2 hn) (Nat.le_trans hn hn2) hr2

/-! ### drawn regions -/
theorem hs_noCall (H : HK) : HK.hs { H with call := fun _ _ _ _ _ _ => none } = H.hs := rfl
theorem stepK_plain {H : HK} (hpk : ∀ g ds (α : Type) (K : D → Option α), H.pk g ds K = (H.pc g ds).bind K) {o : Oper} {st : St} {K : St → Option α} (h : stepK P { H with call := fun _ _ _ _ _ _ => none } o st K = some r) : ∃ st', step1 P H.hs o st = some st' ∧ K st' = some r := by
  unfold stepK at h
  rcases opK_plain (H := { H with call := fun _ _ _ _ _ _ => none }) hpk h with ⟨v, n', hp', h1, h2⟩ | ⟨c, gop, g, xs, ho, hc, hx, hf, he, hcall⟩
  · rw [hs_noCall] at h1
    exact ⟨_, by simp only [step1, h1], h2⟩
  · cases hcall

structure RcsOK (rs : List Rc) : Prop where
  one : ∀ (i : Nat) (q : Rc), rs[i]? = some q → q.s.length ≤ 1
  dist : ∀ (i j : Nat) (p q : Rc), i < j → rs[i]? = some p → rs[j]? = some q → ∀ t, t ∈ p.s.map Prod.fst → t ∉ q.s.map Prod.fst

theorem RcsOK.add {rs : List Rc} (h : RcsOK rs) {r : Rc} (h1 : r.s.length ≤ 1) (hd : ∀ q ∈ rs, ∀ t, t ∈ q.s.map Prod.fst → t ∉ r.s.map Prod.fst) : RcsOK (rs ++ [r]) := by
  have at_ : ∀ (i : Nat) (q : Rc), (rs ++ [r])[i]? = some q → (i < rs.length ∧ rs[i]? = some q) ∨ (i = rs.length ∧ q = r) := by
    intro i q hi
    rcases Nat.lt_trichotomy i rs.length with hl | hl | hl
    · exact .inl ⟨hl, by rwa [List.getElem?_append_left hl] at hi⟩
    · subst hl; simp at hi; exact .inr ⟨rfl, hi.symm⟩
    · rw [List.getElem?_eq_none (by simp; omega)] at hi; cases hi
  refine ⟨fun i q hi => ?_, fun i j p q hij hi hj t ht => ?_⟩
  · rcases at_ i q hi with ⟨_, h2⟩ | ⟨_, rfl⟩
    · exact h.one i q h2
    · exact h1
  · rcases at_ i p hi with ⟨i1, i2⟩ | ⟨i1, rfl⟩ <;> rcases at_ j q hj with ⟨j1, j2⟩ | ⟨j1, rfl⟩
    · exact h.dist i j p q hij i2 j2 t ht
    · exact hd p (List.mem_of_getElem? i2) t ht
    · omega
    · omega

theorem tell_same {rs : List Rc} (hr : RcsOK rs) {all : List Oper} {f : Slots} {S : Nat → Bool} {j t : Nat} {b : Bool} (ht : guardAt all j = some t) (hg : get (selS S 0 rs ++ (junked all ++ f)) t = .d (.b b)) : tellRc t b rs = rs := by
  have hmem : ∃ o ∈ all, o.dst = some t := by
    unfold guardAt at ht
    obtain ⟨o, ho, hd⟩ := Option.bind_eq_some_iff.1 ht
    exact ⟨o, List.mem_of_getElem? ho, hd⟩
  rw [get_append] at hg
  split at hg
  · rename_i hk
    obtain ⟨k, q, h1, h2, h3⟩ := selS_keys.1 hk
    rw [selS_last h1 h2 h3 (fun j' q' hj' hq' _ => hr.dist k j' q q' hj' h1 hq' t h3)] at hg
    unfold tellRc
    have hid : ∀ p ∈ rs, { p with s := p.s.map fun x => bif x.1 == t then (x.1, V.d (.b b)) else x } = p := by
      intro p hp
      obtain ⟨i, hi⟩ := List.getElem?_of_mem hp
      have hs : (p.s.map fun x => bif x.1 == t then (x.1, V.d (.b b)) else x) = p.s := by
        by_cases hkey : t ∈ p.s.map Prod.fst
        · have hik : i = k := by
            rcases Nat.lt_trichotomy i k with hl | hl | hl
            · exact absurd h3 (hr.dist i k p q hl hi h1 t hkey)
            · exact hl
            · exact absurd hkey (hr.dist k i q p hl h1 hi t h3)
          subst hik
          rw [hi] at h1
          injection h1 with h1
          subst h1
          have hone := hr.one i p hi
          match hps : p.s, hone with
          | [], _ => rw [hps] at hkey; simp at hkey
          | [(k1, v1)], _ =>
            rw [hps] at hkey hg
            simp only [List.map_cons, List.map_nil, List.mem_singleton] at hkey
            subst hkey
            rw [get_cons, if_pos rfl] at hg
            subst hg
            simp
          | _ :: _ :: _, hl => simp at hl
        · refine (List.map_congr_left (g := id) fun x hx => ?_).trans (List.map_id _)
          have : (x.1 == t) = false := by
            cases hb : (x.1 == t)
            · rfl
            · exact absurd (List.mem_map.2 ⟨x, hx, by simpa using hb⟩) hkey
          rw [this]; rfl
      rw [hs]
    exact (List.map_congr_left (g := id) fun p hp => hid p hp).trans (List.map_id rs)
  · rcases get_junked all f t with h1 | ⟨_, h2⟩
    · rw [h1] at hg; cases hg
    · obtain ⟨o, ho, hd⟩ := hmem
      exact absurd hd (h2 o ho)

theorem drawStepK_sound {H : HK} (hpk : ∀ g ds (α : Type) (K : D → Option α), H.pk g ds K = (H.pc g ds).bind K) {all : List Oper} {f : Slots} {n0 : Nat} {h0 : Heap} {rs : List Rc} (hr : RcsOK rs) {n : Nat} {o : Oper} {K : List Rc → Rc → Option α} (h : drawStepK P H all (junked all ++ f) n0 h0 rs n o K = some r) :
    ∃ q, drawStep P H.hs all (junked all ++ f) n0 h0 rs n o = some q ∧ K rs q = some r := by
  unfold drawStepK at h
  split at h
  · rename_i A hA
    have done : ∀ st', evOper P { H.hs with call := fun _ _ _ _ => none } all o ⟨selS (A.testBit ·) 0 rs ++ (junked all ++ f), n, viewH (A.testBit ·) rs h0 (seeOf H.G (selS (A.testBit ·) 0 rs ++ (junked all ++ f)) o)⟩ = some st' →
        (bif okRc (A.testBit ·) n0 rs (rcOf A o n (seeOf H.G (selS (A.testBit ·) 0 rs ++ (junked all ++ f)) o) (viewH (A.testBit ·) rs h0 (seeOf H.G (selS (A.testBit ·) 0 rs ++ (junked all ++ f)) o)) st') then K rs (rcOf A o n (seeOf H.G (selS (A.testBit ·) 0 rs ++ (junked all ++ f)) o) (viewH (A.testBit ·) rs h0 (seeOf H.G (selS (A.testBit ·) 0 rs ++ (junked all ++ f)) o)) st') else none) = some r → ∃ q, drawStep P H.hs all (junked all ++ f) n0 h0 rs n o = some q ∧ K rs q = some r := by
      intro st' h1 h2
      obtain ⟨h3, h4⟩ := cond_some h2
      refine ⟨_, ?_, h4⟩
      unfold drawStep
      rw [hA]
      show (match evOper P { H.hs with call := fun _ _ _ _ => none } all o ⟨selS (A.testBit ·) 0 rs ++ (junked all ++ f), n, viewH (A.testBit ·) rs h0 (seeOf H.G (selS (A.testBit ·) 0 rs ++ (junked all ++ f)) o)⟩ with
        | some st' => bif okRc (A.testBit ·) n0 rs (rcOf A o n (seeOf H.G (selS (A.testBit ·) 0 rs ++ (junked all ++ f)) o) (viewH (A.testBit ·) rs h0 (seeOf H.G (selS (A.testBit ·) 0 rs ++ (junked all ++ f)) o)) st') then some (rcOf A o n (seeOf H.G (selS (A.testBit ·) 0 rs ++ (junked all ++ f)) o) (viewH (A.testBit ·) rs h0 (seeOf H.G (selS (A.testBit ·) 0 rs ++ (junked all ++ f)) o)) st') else none
        | none => none) = _
      rw [h1]
      simp only [h3, cond_true]
    have hnc : ({ H.hs with call := fun _ _ _ _ => none } : Hs) = H.hs := rfl
    rw [hnc] at done
    simp only at h
    split at h
    · rename_i hg
      obtain ⟨st', h1, h2⟩ := stepK_plain hpk h
      exact done st' (by simp only [evOper, hg]; exact h1) h2
    · rename_i j want hg
      split at h
      · rename_i t ht
        split at h
        · rename_i x hx
          have ev : ∀ b, x = b → (if b = want then step1 P H.hs o ⟨selS (A.testBit ·) 0 rs ++ (junked all ++ f), n, viewH (A.testBit ·) rs h0 (seeOf H.G (selS (A.testBit ·) 0 rs ++ (junked all ++ f)) o)⟩ else some (St.put ⟨selS (A.testBit ·) 0 rs ++ (junked all ++ f), n, viewH (A.testBit ·) rs h0 (seeOf H.G (selS (A.testBit ·) 0 rs ++ (junked all ++ f)) o)⟩ o.dst (.d (.tp [])))) =
              evOper P H.hs all o ⟨selS (A.testBit ·) 0 rs ++ (junked all ++ f), n, viewH (A.testBit ·) rs h0 (seeOf H.G (selS (A.testBit ·) 0 rs ++ (junked all ++ f)) o)⟩ := by
            intro b hb
            subst hb
            simp only [evOper, hg, ht, hx]
            by_cases hw : x = want
            · rw [if_pos hw, hw]; simp
            · rw [if_neg hw]
              have : (x == want) = false := by simpa using hw
              rw [this]; rfl
          cases x with
          | true =>
            simp only [cond_true] at h
            rw [tell_same hr ht hx] at h
            cases want with
            | true =>
              simp only [cond_true] at h
              obtain ⟨st', h1, h2⟩ := stepK_plain hpk h
              exact done st' (by rw [← ev true rfl, if_pos rfl]; exact h1) h2
            | false =>
              simp only [cond_false] at h
              exact done _ (by rw [← ev true rfl, if_neg (by simp)]) h
          | false =>
            simp only [cond_false] at h
            rw [tell_same hr ht hx] at h
            cases want with
            | true =>
              simp only [cond_true] at h
              exact done _ (by rw [← ev false rfl, if_neg (by simp)]) h
            | false =>
              simp only [cond_false] at h
              obtain ⟨st', h1, h2⟩ := stepK_plain hpk h
              exact done st' (by rw [← ev false rfl, if_pos rfl]; exact h1) h2
        · rename_i hx
          exact done _ (by simp only [evOper, hg, ht, hx]) h
        · cases h
      · cases h
  · cases h

theorem forceD_is {x : D} {K : D → Option α} : forceD x K = K x := by cases x <;> rfl
theorem forceV_is {x : V} {K : V → Option α} : forceV x K = K x := by
  cases x with
  | d x => exact forceD_is (x := x) (K := fun x => K (.d x))
  | _ => rfl
theorem forceS_is : ∀ {s : Slots} {K : Slots → Option α}, forceS s K = K s
  | [], K => rfl
  | (j, v) :: r, K => by simp only [forceS, forceV_is, forceS_is]
theorem forceB_is {b : Blk} {K : Blk → Option α} : forceB b K = K b := by cases b <;> rfl
theorem forceH_is : ∀ {s : Heap} {K : Heap → Option α}, forceH s K = K s
  | [], K => rfl
  | (j, v) :: r, K => by simp only [forceH, forceB_is, forceH_is]
theorem forceN_is {n : Nat} {K : Nat → Option α} : forceN n K = K n := by cases n <;> rfl
theorem forceRc_is {r : Rc} {K : Rc → Option α} : forceRc r K = K r := by
  unfold forceRc
  rw [forceS_is, forceH_is, forceN_is, forceN_is, forceN_is]
  obtain ⟨A, s, p, lo, hi, see⟩ := r
  cases see <;> rfl
theorem forceRs_is : ∀ {rs : List Rc} {K : List Rc → Option α}, forceRs rs K = K rs
  | [], K => rfl
  | r :: rs, K => by simp only [forceRs, forceRc_is, forceRs_is]
theorem drawGoK_sound {H : HK} (hpk : ∀ g ds (α : Type) (K : D → Option α), H.pk g ds K = (H.pc g ds).bind K) {all : List Oper} {f : Slots} {n0 : Nat} {h0 : Heap} : ∀ {os : List Oper} {rs : List Rc} {n : Nat} {K : List Rc → Nat → Option α}, RcsOK rs → drawGoK P H all (junked all ++ f) n0 h0 os rs n K = some r →
    ∃ R N, drawGo P H.hs all (junked all ++ f) n0 h0 os rs n = some (R, N) ∧ K R N = some r
  | [], rs, n, K, hr, h => ⟨rs, n, rfl, h⟩
  | o :: os, rs, n, K, hr, h => by
    simp only [drawGoK] at h
    obtain ⟨q, h1, h2⟩ := drawStepK_sound hpk hr h
    rw [forceRs_is, forceN_is] at h2
    have hk := drawStep_spec h1
    have hrs : RcsOK (rs ++ [q]) := by
      obtain ⟨st', _, hq⟩ := hk.st
      refine hr.add ?_ ?_
      · rw [hq]
        simp only [rcOf, putOf]
        cases o.dst <;> simp
      · intro p hp t ht ht'
        have h3 := hk.ok
        simp only [okRc, Bool.and_eq_true] at h3
        have h4 := h3.1.1.1.1.2
        rw [List.all_eq_true] at h4
        have h5 := h4 p hp
        rw [Bool.and_eq_true, List.all_eq_true] at h5
        obtain ⟨x, hx, rfl⟩ := List.mem_map.1 ht
        obtain ⟨y, hy, hxy⟩ := List.mem_map.1 ht'
        have h6 := h5.2 x hx
        rw [List.all_eq_true] at h6
        have h7 := h6 y hy
        rw [hxy] at h7
        simp at h7
    obtain ⟨R, N, h3, h4⟩ := drawGoK_sound hpk hrs h2
    exact ⟨R, N, by simp only [drawGo, h1]; exact h3, h4⟩
theorem drawK_sound {H : HK} (hpk : ∀ g ds (α : Type) (K : D → Option α), H.pk g ds K = (H.pc g ds).bind K) {all : List Oper} {st : St} {K : St → Option α} (h : drawK P H all st K = some r) : ∃ st', evDraw P H.hs all st = some st' ∧ K st' = some r := by
  unfold drawK at h
  obtain ⟨R, N, h1, h2⟩ := drawGoK_sound hpk ⟨fun i q h => by simp at h, fun i j p q _ h => by simp at h⟩ h
  exact ⟨_, by simp only [evDraw, h1], h2⟩
end Go.Fw
end
section
/- What the tree of the plain evaluator says is so: code, rounds, functions, tables of functions. By this session. -/
set_option linter.unusedVariables false
set_option linter.unusedSimpArgs false
namespace Go.Fw
variable {P : Program} {α : Type} {r : α}

theorem nodeAt_lt : ∀ {c : Code} {k : Nat} {b : Code}, nodeAt c k = some b → k < nodes c
  | .seq x y, k, b, h => by
    simp only [nodeAt] at h
    simp only [nodes]
    cases hb : Nat.blt k (nodes x) <;> rw [hb] at h
    · have h1 : ¬ k < nodes x := by intro h2; rw [← Nat.blt_eq] at h2; rw [h2] at hb; cases hb
      have := nodeAt_lt h
      omega
    · have : k < nodes x := by simpa [Nat.blt_eq] using hb
      omega
  | .cond _ x y, k, b, h => by
    simp only [nodeAt] at h
    simp only [nodes]
    cases h0 : (k == 0) <;> rw [h0] at h
    · have hk : k ≠ 0 := by simpa using h0
      simp only [cond_false] at h
      cases hb : Nat.blt (k - 1) (nodes x) <;> rw [hb] at h
      · have h1 : ¬ k - 1 < nodes x := by intro h2; rw [← Nat.blt_eq] at h2; rw [h2] at hb; cases hb
        have := nodeAt_lt h
        omega
      · have : k - 1 < nodes x := by simpa [Nat.blt_eq] using hb
        omega
    · have hk : k = 0 := by simpa using h0
      omega
  | .block _ x, k, b, h => by
    simp only [nodeAt] at h
    simp only [nodes]
    cases h0 : (k == 0) <;> rw [h0] at h
    · have hk : k ≠ 0 := by simpa using h0
      have := nodeAt_lt (c := x) h
      omega
    · have hk : k = 0 := by simpa using h0
      omega
  | .loop x, k, b, h => by
    simp only [nodeAt] at h
    have := (cond_some h).1
    simp only [nodes]
    have : k = 0 := by simpa using this
    omega
  | .region _ _ _, k, b, h => by
    simp only [nodeAt] at h
    have := (cond_some h).1
    simp only [nodes]
    have : k = 0 := by simpa using this
    omega
  | .skip, _, _, h => by simp [nodeAt] at h
  | .exit _, _, _, h => by simp [nodeAt] at h
  | .ret, _, _, h => by simp [nodeAt] at h
  | .scope _, _, _, h => by simp [nodeAt] at h
  | .rangeFunc .., _, _, h => by simp [nodeAt] at h
  | .label .., _, _, h => by simp [nodeAt] at h
  | .goto _, _, _, h => by simp [nodeAt] at h
theorem blt_lt {a b : Nat} (h : a < b) : Nat.blt a b = true := by rw [Nat.blt_eq]; exact h

/-- code that leads from here to there; numbers below the first one keep their blocks -/
def CodeN (P : Program) (G : Nat → Option (List D)) (nt n0 : Nat) (code : Code) (st : St) (q : X × St) : Prop :=
  n0 ≤ st.n → ∀ (c : Cf) (a : Act) (Q : Exit → Act → World → Prop), SR G nt c st a → (∀ a' c', Ext c n0 c' → n0 ≤ q.2.n → SR G nt c' q.2 a' → Q (exitOf q.1) a' c'.w) → code.wp P Q a c.w

theorem Ext.weaken {c c' : Cf} {n m : Nat} (h : Ext c m c') (hn : n ≤ m) : Ext c n c' :=
  ⟨h.size, h.kept, h.shape, fun id hid => h.bk id (by omega), fun id hid => h.ln id (by omega), h.K, h.G, h.keptK, h.os, h.tape, h.output⟩

/-- what is told of a piece of code is so -/
def SummOK (P : Program) (G : Nat → Option (List D)) (nt n0 : Nat) (node : Code) (s : Summ) : Prop :=
  ∀ (st : St) (α : Type) (K : X → St → Option α) (r : α), s st K = some r → ∃ x st', CodeN P G nt n0 node st (x, st') ∧ K x st' = some r
def LoopsSem (P : Program) (G : Nat → Option (List D)) (nt n0 : Nat) (L : Loops) (c : Code) (k0 : Nat) : Prop :=
  ∀ k node, nodeAt c k = some node → ∀ s, L (k0 + k) = .yes s → SummOK P G nt n0 node s

theorem CodeN.seq {G : Nat → Option (List D)} {nt n0 : Nat} {x y : Code} {st st1 : St} {q : X × St} (h1 : CodeN P G nt n0 x st (.n, st1)) (h2 : CodeN P G nt n0 y st1 q) : CodeN P G nt n0 (.seq x y) st q := by
  intro h0 c a Q hr hQ
  refine wp_seq (h1 h0 c a _ hr fun a1 c1 hx1 hn1 hr1 => ?_)
  exact h2 hn1 c1 a1 Q hr1 fun a2 c2 hx2 hn2 hr2 => hQ a2 c2 (hx1.trans hx2 (Nat.le_refl _)) hn2 hr2
theorem CodeN.seq_out {G : Nat → Option (List D)} {nt n0 : Nat} {x y : Code} {st : St} {q : X × St} (h1 : CodeN P G nt n0 x st q) (hq : q.1 ≠ .n) : CodeN P G nt n0 (.seq x y) st q := by
  intro h0 c a Q hr hQ
  refine wp_seq (h1 h0 c a _ hr fun a1 c1 hx1 hn1 hr1 => ?_)
  have := hQ a1 c1 hx1 hn1 hr1
  obtain ⟨x', st'⟩ := q
  cases x' with
  | n => exact absurd rfl hq
  | ret => exact this
  | exit id => exact this
theorem CodeN.block {G : Nat → Option (List D)} {nt n0 id : Nat} {x : Code} {st st' : St} {j : Nat} (h1 : CodeN P G nt n0 x st (.exit j, st')) : CodeN P G nt n0 (.block id x) st (bif j == id then .n else .exit j, st') := by
  intro h0 c a Q hr hQ
  refine wp_block (h1 h0 c a _ hr fun a1 c1 hx1 hn1 hr1 => ?_)
  have := hQ a1 c1 hx1 hn1 hr1
  by_cases hj : j = id
  · subst hj
    simp only [beq_self_eq_true, cond_true] at this
    simpa [exitOf, Exit.inBlock] using this
  · have hb : (j == id) = false := by simpa using hj
    simp only [hb, cond_false] at this
    simpa [exitOf, Exit.inBlock, hj] using this
theorem CodeN.block_out {G : Nat → Option (List D)} {nt n0 id : Nat} {x : Code} {st : St} {q : X × St} (h1 : CodeN P G nt n0 x st q) (hq : ∀ j, q.1 ≠ .exit j) : CodeN P G nt n0 (.block id x) st q := by
  intro h0 c a Q hr hQ
  refine wp_block (h1 h0 c a _ hr fun a1 c1 hx1 hn1 hr1 => ?_)
  have := hQ a1 c1 hx1 hn1 hr1
  obtain ⟨x', st'⟩ := q
  cases x' with
  | n => exact this
  | ret => exact this
  | exit id => exact absurd rfl (hq id)

theorem evK_sound {H : HK} (hok : HKOK P H) {L : Loops} {nt n0 : Nat} : ∀ (c : Code) (k : Nat) (st : St) (K : X → St → Option α), okCode nt c = true → LoopsSem P H.G nt n0 L c k → evK P H L c k st K = some r →
    ∃ x st', CodeN P H.G nt n0 c st (x, st') ∧ K x st' = some r
  | .skip, k, st, K, hk, hL, h => ⟨.n, st, fun h0 c a Q hr hQ => wp_skip (hQ a c (.refl c _) h0 hr), h⟩
  | .region id ops b, k, st, K, hk, hL, h => by
    simp only [evK] at h
    split at h
    · rename_i s hs
      exact hL 0 _ rfl s hs st _ K r h
    · have hall : ∀ o ∈ ops.toList, ∀ d, o.dst = some d → d < nt := by
        intro o ho d hd
        simp only [okCode, List.all_eq_true] at hk
        have := hk o ho
        rw [hd] at this
        exact Nat.le_of_ble_eq_true this
      split at h
      · obtain ⟨st', h1, h2⟩ := opersK_sound hok hall (fun o ho => ho) h
        exact ⟨.n, st', fun h0 c a Q hr hQ => wp_region_list (h1 c a Q hr fun a' c' hx hn hr' => hQ a' c' (hx.weaken h0) (Nat.le_trans h0 hn) hr'), h2⟩
      · obtain ⟨hm, h⟩ := cond_some h
        obtain ⟨st', h1, h2⟩ := drawK_sound hok.pk h
        exact ⟨.n, st', fun h0 c a Q hr hQ => evDraw_wp hok.hs hm hall h1 hr fun a' c' hx hn hr' => hQ a' c' (hx.weaken h0) (Nat.le_trans h0 hn) hr', h2⟩
  | .seq x y, k, st, K, hk, hL, h => by
    simp only [okCode, Bool.and_eq_true] at hk
    simp only [evK] at h
    have hLx : LoopsSem P H.G nt n0 L x k := fun j b hb => hL j b (by simp only [nodeAt, blt_lt (nodeAt_lt hb), cond_true, hb])
    have hLy : LoopsSem P H.G nt n0 L y (k + nodes x) := fun j b hb s hl => by
      refine hL (nodes x + j) b ?_ s (by rw [← hl]; congr 1; omega)
      have : Nat.blt (nodes x + j) (nodes x) = false := by
        cases hb : Nat.blt (nodes x + j) (nodes x)
        · rfl
        · rw [Nat.blt_eq] at hb; omega
      simp only [nodeAt, this, cond_false]
      rw [← hb]; congr 1; omega
    obtain ⟨x1, st1, h1, h2⟩ := evK_sound hok x k st _ hk.1 hLx h
    cases x1 with
    | n =>
      obtain ⟨x2, st2, h3, h4⟩ := evK_sound hok y _ st1 _ hk.2 hLy h2
      exact ⟨x2, st2, h1.seq h3, h4⟩
    | ret => exact ⟨_, st1, h1.seq_out (by simp), h2⟩
    | exit j => exact ⟨_, st1, h1.seq_out (by simp), h2⟩
  | .cond co x y, k, st, K, hk, hL, h => by
    simp only [okCode, Bool.and_eq_true] at hk
    simp only [evK] at h
    split at h
    · rename_i s hs
      exact hL 0 _ rfl s hs st _ K r h
    · have hLx : LoopsSem P H.G nt n0 L x (k + 1) := fun j b hb s hl => hL (1 + j) b (by
          have e1 : (1 + j == 0) = false := by simp
          have e2 : 1 + j - 1 = j := by omega
          simp only [nodeAt, e1, cond_false, e2, blt_lt (nodeAt_lt hb), cond_true, hb]) s (by rw [← hl]; congr 1; omega)
      have hLy : LoopsSem P H.G nt n0 L y (k + 1 + nodes x) := fun j b hb s hl => by
        refine hL (1 + nodes x + j) b ?_ s (by rw [← hl]; congr 1; omega)
        have e1 : (1 + nodes x + j == 0) = false := by
          simp
        have e2 : 1 + nodes x + j - 1 = nodes x + j := by omega
        have e3 : Nat.blt (nodes x + j) (nodes x) = false := by
          cases hb : Nat.blt (nodes x + j) (nodes x)
          · rfl
          · rw [Nat.blt_eq] at hb; omega
        simp only [nodeAt, e1, e2, e3, cond_false]
        rw [← hb]; congr 1; omega
      split at h
      · rename_i t ht
        have cnd : ∀ (c : Cf) (a : Act), SR H.G nt c st a → a.eval co = .bool t := by
          intro c a hr
          have hv := opV_rel hr.s co
          rw [hr.g, ht] at hv
          generalize a.eval co = v at hv
          cases hv.inv_d
          rfl
        cases t with
        | true =>
          obtain ⟨x1, st1, h1, h2⟩ := evK_sound hok x _ st _ hk.1 hLx h
          exact ⟨x1, st1, fun h0 c a Q hr hQ => wp_cond (cnd c a hr) (h1 h0 c a Q hr hQ), h2⟩
        | false =>
          obtain ⟨x1, st1, h1, h2⟩ := evK_sound hok y _ st _ hk.2 hLy h
          exact ⟨x1, st1, fun h0 c a Q hr hQ => wp_cond (cnd c a hr) (h1 h0 c a Q hr hQ), h2⟩
      · cases h
  | .block id x, k, st, K, hk, hL, h => by
    simp only [okCode] at hk
    simp only [evK] at h
    split at h
    · rename_i s hs
      exact hL 0 _ rfl s hs st _ K r h
    · have hLx : LoopsSem P H.G nt n0 L x (k + 1) := fun j b hb s hl => hL (1 + j) b (by
          have e1 : (1 + j == 0) = false := by simp
          have e2 : 1 + j - 1 = j := by omega
          simp only [nodeAt, e1, cond_false, e2, hb]) s (by rw [← hl]; congr 1; omega)
      obtain ⟨x1, st1, h1, h2⟩ := evK_sound hok x (k + 1) st _ hk hLx h
      cases x1 with
      | n => exact ⟨_, st1, h1.block_out (by simp), h2⟩
      | ret => exact ⟨_, st1, h1.block_out (by simp), h2⟩
      | exit j =>
        refine ⟨_, st1, h1.block, ?_⟩
        cases hb : (j == id) <;> simp only [hb, cond_true, cond_false] at h2 ⊢ <;> exact h2
  | .loop x, k, st, K, hk, hL, h => by
    simp only [evK] at h
    split at h
    · rename_i s hs
      exact hL 0 _ rfl s hs st _ K r h
    · cases h
  | .exit id, k, st, K, hk, hL, h => ⟨.exit id, st, fun h0 c a Q hr hQ => wp_exit (hQ a c (.refl c _) h0 hr), h⟩
  | .ret, k, st, K, hk, hL, h => ⟨.ret, st, fun h0 c a Q hr hQ => wp_ret (hQ a c (.refl c _) h0 hr), h⟩
  | .scope _, k, st, K, hk, hL, h => by simp [evK] at h
  | .rangeFunc .., k, st, K, hk, hL, h => by simp [evK] at h
  | .label .., k, st, K, hk, hL, h => by simp [evK] at h
  | .goto _, k, st, K, hk, hL, h => by simp [evK] at h

/-! ### functions -/
theorem mcall_of {G : Nat → Option (List D)} {g : FuncId} {d : Fd} (hd : fnOf P g = some d) {xs : List V} (hle : xs.length ≤ d.nt) {n : Nat} {hp : Heap} {x : X} {st : St} (hx : x = .n ∨ x = .ret)
    (hc : CodeN P G d.nt n d.code ⟨zipArgs 0 xs, n, hp⟩ (x, st)) {vs' : List V} (hres : ress P st d.res = some vs') : Enters P g ∧ MCall P G g xs n hp (oneV vs', st.n, st.h) := by
  obtain ⟨fn, h1, h2, h3, h4, h5, h6⟩ := fnOf_spec hd
  refine ⟨⟨fn, h1, h3, by rw [h2]; rfl⟩, ?_⟩
  intro c vs hG hg hH hL
  have hsz : vs.size = xs.length := by have := hL.1; simpa using this
  have hr0 : SR G d.nt c ⟨zipArgs 0 xs, n, hp⟩ { tmps := vs ++ Array.replicate (fn.ntmps - vs.size) undef, defers := [] } := by
    refine ⟨hG, ⟨hg, fun i => ?_⟩, hH, by simp; omega, rfl⟩
    rw [zipArgs_get, if_pos (Nat.zero_le _)]
    simp only [Nat.sub_zero]
    by_cases hi : i < xs.length
    · obtain ⟨u, hu, hru⟩ := hL.2 i _ (List.getElem?_eq_getElem hi)
      rw [List.getElem?_eq_getElem hi]
      rw [Array.getElem?_toList] at hu
      rw [Array.getD_eq_getD_getElem?, Array.getElem?_append, if_pos (by omega), hu]
      exact hru
    · rw [List.getElem?_eq_none (by omega)]
      exact .junk _
  refine calls_of_wp h1 h2 ?_
  have finish : ∀ (a' : Act) (c' : Cf), Ext c n c' → n ≤ st.n → SR G d.nt c' st a' →
      a'.defers = [] ∧ ∃ v, (results fn a'.tmps).run P c'.w = .ok v c'.w ∧ ∃ v' c'', Ending.returned v = .returned v' ∧ c'.w = c''.w ∧ Outs c n (oneV vs', st.n, st.h) v' c'' := by
    intro a' c' hx hn hr
    rw [← h6] at hres
    obtain ⟨u, hu, hru⟩ := results_sound (P := P) hr hres
    exact ⟨hr.defers, u, hu, u, c', rfl, rfl, hx, hn, hr.h, hru⟩
  rcases hx with rfl | rfl
  · exact hc (Nat.le_refl _) c _ _ hr0 fun a' c' hx hn hr => finish a' c' hx hn hr
  · exact hc (Nat.le_refl _) c _ _ hr0 fun a' c' hx hn hr => finish a' c' hx hn hr

theorem pcall_of {G : Nat → Option (List D)} {g : FuncId} {ds : List D} {v : V} {n : Nat} {hp : Heap} {q : D} (hm : MCall P G g (ds.map .d) 0 [] (v, n, hp)) (he : expD hp v = some q) : PCall P G g ds q := by
  intro w I K vs hg hI hK hd hsz hargs
  have hH : RelH ⟨w, I, K, fun _ => 0, fun _ => 0, G⟩ 0 [] := relH_empty hI hK hd
  refine (hm ⟨w, I, K, fun _ => 0, fun _ => 0, G⟩ vs rfl hg hH ⟨by simpa using hsz, fun j x hj => ?_⟩).mono ?_
  · simp only [List.getElem?_map] at hj
    obtain ⟨d, hd', rfl⟩ := Option.map_eq_some_iff.1 hj
    have hlt := (List.getElem?_eq_some_iff.1 hd').1
    refine ⟨vs.getD j undef, ?_, .d _ _ (hargs j d hd')⟩
    rw [Array.getElem?_toList, Array.getD_eq_getD_getElem?, Array.getElem?_eq_getElem (by omega)]; rfl
  · rintro e w' ⟨u, c', rfl, rfl, hO⟩
    obtain ⟨c2, hp2, hF, hX⟩ := expD_sound he hO.heap hO.rel
    have hx := hO.ext.trans hF.ext hO.le
    have hw : c2.w = c'.w := hF.w
    refine ⟨u, c2.I, rfl, hO.ext.size, ?_, ?_, fun b hb => ⟨?_, ?_⟩, ?_, hO.ext.os, hO.ext.tape, hO.ext.output, ?_⟩
    · have := hx.kept; rw [hw] at this; exact this
    · exact hO.ext.keptK
    · have := hF.heap.low b hb; rw [hw] at this; exact this
    · have := hF.heap.disj b hb
      rw [hx.K] at this
      exact this
    · exact hO.ext.shape
    · have hKK : c2.K = K := hx.K
      rw [hw, hKK] at hX
      exact hX

theorem resK_sound {st : St} : ∀ {rs : List ResultVar} {K : List V → Option α}, resK P st rs K = some r → ∃ vs, ress P st rs = some vs ∧ K vs = some r
  | [], K, h => ⟨[], rfl, h⟩
  | .tmp t :: rs, K, h => by
    simp only [resK] at h
    obtain ⟨vs, h1, h2⟩ := resK_sound h
    exact ⟨_, by simp only [ress, resV, h1], h2⟩
  | .cell a t :: rs, K, h => by
    simp only [resK] at h
    obtain ⟨v, h0, h⟩ := loadK_sound h
    obtain ⟨vs, h1, h2⟩ := resK_sound h
    exact ⟨_, by simp only [ress, resV, h0, h1], h2⟩

/-- what is told of a function's rounds is so -/
def LoopsOf (P : Program) (G : Nat → Option (List D)) (n0 : Nat) (L : Loops) (g : FuncId) : Prop := ∀ d, fnOf P g = some d → LoopsSem P G d.nt n0 L d.code 0

theorem bodyK_sound {H : HK} (hok : HKOK P H) {L : Loops} {g : FuncId} {n : Nat} (hL : LoopsOf P H.G n L g) {xs : List V} {hp : Heap} {K : V → Nat → Heap → Option α} (h : bodyK P H L g xs n hp K = some r) :
    ∃ v n' hp', Enters P g ∧ MCall P H.G g xs n hp (v, n', hp') ∧ K v n' hp' = some r := by
  unfold bodyK at h
  split at h
  · rename_i d hd
    obtain ⟨fn, h1, h2, h3, h4, h5, h6⟩ := fnOf_spec hd
    obtain ⟨hle, h⟩ := cond_some h
    obtain ⟨x, st', hc, h⟩ := evK_sound hok d.code 0 _ _ h4 (hL d hd) h
    cases x with
    | n =>
      simp only [finK] at h
      obtain ⟨vs, h7, h8⟩ := resK_sound h
      obtain ⟨e, m⟩ := mcall_of hd (Nat.le_of_ble_eq_true hle) (.inl rfl) hc h7
      exact ⟨_, _, _, e, m, h8⟩
    | ret =>
      simp only [finK] at h
      obtain ⟨vs, h7, h8⟩ := resK_sound h
      obtain ⟨e, m⟩ := mcall_of hd (Nat.le_of_ble_eq_true hle) (.inr rfl) hc h7
      exact ⟨_, _, _, e, m, h8⟩
    | exit j => cases h
  · cases h

theorem outK_sound {hp : Heap} {v : V} {K : D → Heap → Option α} (h : outK hp v K = some r) : ∃ d hp', expTop hp v = some (d, hp') ∧ K d hp' = some r := by
  have main : frzK hp v K = some r → (∀ d hp', frz hp v = some (d, hp') → expTop hp v = some (d, hp')) → ∃ d hp', expTop hp v = some (d, hp') ∧ K d hp' = some r := by
    intro h1 h2
    obtain ⟨d, hp', h3, h4⟩ := frzK_sound h1
    exact ⟨d, hp', h2 d hp' h3, h4⟩
  cases v with
  | ms id w off len =>
    cases hb : lk hp id with
    | arr w' xs =>
      simp only [outK, hb] at h
      cases hc : (off == 0 && len == xs.len && w == w') <;> rw [hc] at h
      · exact main h fun d hp' h1 => by simp only [expTop, hb, hc, cond_false]; exact h1
      · exact ⟨_, _, by simp only [expTop, hb, hc, cond_true], h⟩
    | _ =>
      simp only [outK, hb] at h
      exact main h fun d hp' h1 => by simp only [expTop, hb]; exact h1
  | mf id w =>
    cases hb : lk hp id with
    | arr w' xs =>
      simp only [outK, hb] at h
      obtain ⟨hc, h⟩ := cond_some h
      exact ⟨_, _, by simp only [expTop, hb, hc, cond_true], h⟩
    | _ =>
      simp only [outK, hb] at h
      exact main h fun d hp' h1 => by simp only [expTop, hb]; exact h1
  | _ => exact main h fun d hp' h1 => h1
theorem outsK_sound : ∀ {vs : List V} {hp : Heap} {K : List D → Heap → Option α}, outsK vs hp K = some r → ∃ ds hp', expTops hp vs = some (ds, hp') ∧ K ds hp' = some r
  | [], hp, K, h => ⟨_, _, rfl, h⟩
  | v :: vs, hp, K, h => by
    simp only [outsK] at h
    obtain ⟨d, hp', h1, h2⟩ := outK_sound h
    obtain ⟨ds, hp'', h3, h4⟩ := outsK_sound h2
    exact ⟨_, _, by simp only [expTops, h1, h3], h4⟩
theorem expK_sound {hp : Heap} {v : V} {K : D → Option α} (h : expK hp v K = some r) : ∃ d, expD hp v = some d ∧ K d = some r := by
  unfold expK at h
  split at h
  · obtain ⟨ds, hp', h1, h2⟩ := outsK_sound h
    exact ⟨_, by simp only [expD, h1, Option.map_some], h2⟩
  · rename_i hne
    obtain ⟨d, hp', h1, h2⟩ := outK_sound h
    refine ⟨d, ?_, h2⟩
    unfold expD
    split
    · exact (hne _ rfl).elim
    · rw [h1]; rfl

theorem pcallK_sound {H : HK} (hok : HKOK P H) {L : Loops} {g : FuncId} (hL : LoopsOf P H.G 0 L g) {ds : List D} {K : D → Option α} (h : pcallK P H L g ds K = some r) :
    ∃ q, Enters P g ∧ PCall P H.G g ds q ∧ K q = some r := by
  unfold pcallK at h
  obtain ⟨v, n', hp', h1, h2, h3⟩ := bodyK_sound hok hL h
  obtain ⟨q, h4, h5⟩ := expK_sound h3
  exact ⟨q, h1, pcall_of h2 h4, h5⟩

/-! ### tables of functions -/
/-- what a row takes stands for what comes, and what it answers is so -/
def RowOK (P : Program) (G : Nat → Option (List D)) (w : Row) : Prop := ∀ ds a q, w.dec ds = some a → w.F a = some q → Enters P w.g ∧ PCall P G w.g ds (w.enc q)
def TabOK (P : Program) (G : Nat → Option (List D)) (T : FuncId → List D → Option D) : Prop := ∀ g ds q, T g ds = some q → Enters P g ∧ PCall P G g ds q
theorem tabK_tabF : ∀ (ws : List Row) (g : FuncId) (ds : List D) (α : Type) (K : D → Option α), tabK ws g ds K = (tabF ws g ds).bind K
  | [], _, _, _, _ => rfl
  | w :: ws, g, ds, α, K => by
    simp only [tabK, tabF]
    cases (w.g == g)
    · exact tabK_tabF ws g ds α K
    · simp only [cond_true]
      split
      · rename_i a _
        cases w.F a <;> rfl
      · exact tabK_tabF ws g ds α K
theorem tab_ok {G : Nat → Option (List D)} : ∀ {ws : List Row}, (∀ w ∈ ws, RowOK P G w) → TabOK P G (tabF ws)
  | [], _, g, ds, q, h => by cases h
  | w :: ws, hw, g, ds, q, h => by
    simp only [tabF] at h
    cases hb : (w.g == g) <;> rw [hb] at h
    · exact tab_ok (fun w hm => hw w (List.mem_cons_of_mem _ hm)) g ds q h
    · have hg : w.g = g := by simpa using hb
      subst hg
      simp only [cond_true] at h
      split at h
      · rename_i a ha
        split at h
        · rename_i r hr
          injection h with h
          subst h
          exact hw w List.mem_cons_self ds a r ha hr
        · cases h
      · exact tab_ok (fun w hm => hw w (List.mem_cons_of_mem _ hm)) w.g ds q h

theorem hk_ok {G : Nat → Option (List D)} {E : FuncId → Option (List D → Option (Bool × D))} {T : List Row} {L : FuncId → Nat → Loops} (hE : ∀ g f, E g = some f → ExtOK P g (bare f)) (hT : TabOK P G (tabF T)) (hL : ∀ g n0, LoopsOf P G n0 (L g n0) g) : ∀ k, HKOK P (hk P G E T L k)
  | 0 => ⟨hE, hT, tabK_tabF T, fun g xs n hp α K r h => by cases h⟩
  | k + 1 => by
    have ih := hk_ok hE hT hL k
    have hG : (hk P G E T L k).G = G := by cases k <;> rfl
    refine ⟨hE, hT, tabK_tabF T, fun g xs n hp α K r h => ?_⟩
    have h' : bodyK P (hk P G E T L k) (L g n) g xs n hp K = some r := h
    have hl : LoopsOf P (hk P G E T L k).G n (L g n) g := by rw [hG]; exact hL g n
    obtain ⟨v, n', hp', h1, h2, h3⟩ := bodyK_sound ih hl h'
    rw [hG] at h2
    exact ⟨v, n', hp', h1, h2, h3⟩
theorem hk_G {G : Nat → Option (List D)} {E : FuncId → Option (List D → Option (Bool × D))} {T : List Row} {L : FuncId → Nat → Loops} (k : Nat) : (hk P G E T L k).G = G := by cases k <;> rfl

def noL : Loops := fun _ => .no
def noLoops : FuncId → Nat → Loops := fun _ _ => noL
theorem noL_ok {G : Nat → Option (List D)} {nt n0 : Nat} {c : Code} {k : Nat} : LoopsSem P G nt n0 noL c k := fun j b hb s h => by cases h
theorem noLoops_ok {G : Nat → Option (List D)} (g : FuncId) (n0 : Nat) : LoopsOf P G n0 (noLoops g n0) g := fun d hd => noL_ok
end Go.Fw
end
section
/- Rounds: less known, numbers renamed; round by round. By this session. -/
set_option linter.unusedVariables false
set_option linter.unusedSimpArgs false
namespace Go.Fw
variable {P : Program}

mutual
def renV (σ : Nat → Nat) : V → V
  | .d x => .d x
  | .ag cs => .ag (renVs σ cs)
  | .tp cs => .tp (renVs σ cs)
  | .fn f cs => .fn f (renVs σ cs)
  | .pt id o => .pt (σ id) o
  | .mf id w => .mf (σ id) w
  | .ms id w o l => .ms (σ id) w o l
  | .ep id w k c => .ep (σ id) w k c
  | .rp cs c => .rp cs c
  | .fl w xs => .fl w xs
  | .junk => .junk
def renVs (σ : Nat → Nat) : List V → List V
  | [] => []
  | v :: vs => renV σ v :: renVs σ vs
end
def renB (σ : Nat → Nat) : Blk → Blk
  | .box cs => .box (renVs σ cs)
  | b => b

theorem renVs_get (σ : Nat → Nat) : ∀ (cs : List V) (j : Nat), (renVs σ cs)[j]? = (cs[j]?).map (renV σ)
  | [], j => by simp [renVs]
  | v :: vs, 0 => by simp [renVs]
  | v :: vs, j + 1 => by simp [renVs, renVs_get σ vs j]
theorem renVs_len (σ : Nat → Nat) : ∀ (cs : List V), (renVs σ cs).length = cs.length
  | [] => rfl
  | v :: vs => by simp [renVs, renVs_len σ vs]

theorem RelV.unren {c c' : Cf} {n n' : Nat} {σ : Nat → Nat} (hw : c'.w = c.w) (hI : c'.I = c.I) (hb : ∀ id, id < n' → c'.bk id = c.bk (σ id) ∧ c'.ln id = c.ln (σ id)) : ∀ (x : V) (v : Value), RelV c n (renV σ x) v → Fw.inB (fun id => Nat.blt id n') x = true → RelV c' n' x v
  | .d x, v, h, _ => by
    simp only [renV] at h
    have := h.inv_d
    exact .d x v (by rw [hw, hI]; exact this)
  | .ag cs, v, h, hi => by
    simp only [renV] at h
    cases h with
    | ag _ vs hl h1 h =>
      exact .ag cs vs (by rw [hl, renVs_len]) (fun j hj => h1 j (by rw [renVs_len]; exact hj)) (list hw hI hb cs vs (fun j x hj => h j _ (by rw [renVs_get, hj]; rfl)) hi)
  | .tp cs, v, h, hi => by
    simp only [renV] at h
    cases h with
    | tp _ vs hl h =>
      exact .tp cs vs (by rw [hl, renVs_len]) (list hw hI hb cs vs (fun j x hj => h j _ (by rw [renVs_get, hj]; rfl)) hi)
  | .fn g cs, v, h, hi => by
    simp only [renV] at h
    cases h with
    | fn _ _ vs hl h =>
      exact .fn g cs vs (by rw [hl, renVs_len]) (list hw hI hb cs vs (fun j x hj => h j _ (by rw [renVs_get, hj]; rfl)) hi)
  | .pt id o, v, h, hi => by
    simp only [renV] at h
    have hid : id < n' := by simpa [Fw.inB, Nat.blt_eq] using hi
    cases h with
    | pt _ _ _ => rw [← (hb id hid).1]; exact .pt id o hid
  | .mf id w, v, h, hi => by
    simp only [renV] at h
    have hid : id < n' := by simpa [Fw.inB, Nat.blt_eq] using hi
    cases h with
    | mf _ _ cap a _ h2 h3 h4 h5 h6 =>
      rw [← (hb id hid).2] at h2 ⊢
      refine .mf id w cap a hid h2 h3 (by rw [(hb id hid).1]; exact h4) h5 ?_
      rw [(hb id hid).1, hw]; exact h6
  | .ms id w o l, v, h, hi => by
    simp only [renV] at h
    have hid : id < n' := by simpa [Fw.inB, Nat.blt_eq] using hi
    cases h with
    | ms _ _ _ _ cap a _ h2 h3 h4 h5 h6 =>
      refine .ms id w o l cap a hid h2 h3 (by rw [(hb id hid).1]; exact h4) h5 ?_
      rw [(hb id hid).1, hw]; exact h6
  | .ep id w k o, v, h, hi => by
    simp only [renV] at h
    have hid : id < n' := by simpa [Fw.inB, Nat.blt_eq] using hi
    cases h with
    | ep _ _ _ _ _ => rw [← (hb id hid).1]; exact .ep id w k o hid
  | .rp cs o, v, h, _ => by
    simp only [renV] at h
    cases h with
    | rp _ _ a vs e fz hs hI' hc ho hb h1 h => exact .rp cs o a vs e fz hs (by rw [hI]; exact hI') (by rw [hw]; exact hc) ho hb h1 (by rw [hw, hI]; exact h)
  | .fl w xs, v, h, _ => by
    simp only [renV] at h
    cases h with
    | fl _ _ a h => exact .fl w xs a (by rw [hw, hI]; exact h)
    | fl0 _ _ ad h => exact .fl0 w xs ad h
  | .junk, v, _, _ => .junk v
where list {c c' : Cf} {n n' : Nat} {σ : Nat → Nat} (hw : c'.w = c.w) (hI : c'.I = c.I) (hb : ∀ id, id < n' → c'.bk id = c.bk (σ id) ∧ c'.ln id = c.ln (σ id)) : ∀ (cs : List V) (vs : Array Value), (∀ (j : Nat) (x : V), cs[j]? = some x → RelV c n (renV σ x) (vs.getD j undef)) → inBs (fun id => Nat.blt id n') cs = true →
    ∀ (j : Nat) (x : V), cs[j]? = some x → RelV c' n' x (vs.getD j undef)
  | [], vs, _, _, j, x, hj => by simp at hj
  | y :: cs, vs, h, hi, j, x, hj => by
    simp only [inBs, Bool.and_eq_true] at hi
    cases j with
    | zero =>
      simp only [List.getElem?_cons_zero, Option.some.injEq] at hj
      subst hj
      exact RelV.unren hw hI hb y _ (h 0 y rfl) hi.1
    | succ j =>
      have := list hw hI hb cs (vs.extract 1 vs.size) (fun i x hx => by
        have h1 := h (i + 1) x (by simpa using hx)
        have e : (vs.extract 1 vs.size).getD i undef = vs.getD (i + 1) undef := by
          simp only [Array.getD_eq_getD_getElem?, Array.getElem?_extract]
          split
          · rw [Nat.add_comm]
          · rw [Array.getElem?_eq_none (by omega)]
        rw [e]; exact h1) hi.2 j x (by simpa using hj)
      have e : (vs.extract 1 vs.size).getD j undef = vs.getD (j + 1) undef := by
        simp only [Array.getD_eq_getD_getElem?, Array.getElem?_extract]
        split
        · rw [Nat.add_comm]
        · rw [Array.getElem?_eq_none (by omega)]
      rw [e] at this; exact this

/-- each slot that is kept -/
def slotsW (f : Slots) (σ : Nat → Nat) : Slots → Prop
  | [] => True
  | (j, v) :: r => get f j = renV σ v ∧ slotsW f σ r
def heapW (h : Heap) (σ : Nat → Nat) : Heap → Prop
  | [] => True
  | (j, b) :: r => (b ≠ .dead → lk h (σ j) = renB σ b) ∧ heapW h σ r
theorem slotsW_get {f : Slots} {σ : Nat → Nat} : ∀ {r : Slots}, slotsW f σ r → ∀ t, get r t = .junk ∨ get f t = renV σ (get r t)
  | [], _, t => .inl rfl
  | (j, v) :: r, h, t => by
    rw [get_cons]
    by_cases hj : j = t
    · subst hj; rw [if_pos rfl]; exact .inr h.1
    · rw [if_neg hj]; exact slotsW_get h.2 t
theorem heapW_get {h : Heap} {σ : Nat → Nat} : ∀ {r : Heap}, heapW h σ r → ∀ t, lk r t ≠ .dead → lk h (σ t) = renB σ (lk r t)
  | [], _, t, hd => absurd rfl hd
  | (j, v) :: r, h, t, hd => by
    rw [lk_cons] at hd ⊢
    by_cases hj : j = t
    · subst hj; rw [if_pos rfl] at hd ⊢; exact h.1 hd
    · rw [if_neg hj] at hd ⊢; exact heapW_get h.2 t hd

/-- what can be read off: numbers in bounds -/
def okW (st : St) : Bool := st.f.all (fun x => inB (fun id => Nat.blt id st.n) x.2) && st.h.all (fun x => Nat.blt x.1 st.n && inBk (fun id => Nat.blt id st.n) x.2)
def sig (l : List Nat) (id : Nat) : Nat := l.getD id id
def okSig (n0 n : Nat) (l : List Nat) : Bool := Nat.ble n0 n && (List.range n).all (fun i => (List.range n).all fun j => (i == j) || !(sig l i == sig l j)) && (List.range n0).all fun i => sig l i == i

/-- less is known, numbers are others -/
structure Weak (n0 : Nat) (l : List Nat) (st st' : St) : Prop where
  sl : slotsW st.f (sig l) st'.f
  hp : heapW st.h (sig l) st'.h
  ok : okW st' = true
  sg : okSig n0 st'.n l = true

theorem get_all {p : Nat → Bool} : ∀ {f : Slots}, (f.all fun x => inB p x.2) = true → ∀ t, inB p (get f t) = true
  | [], _, t => rfl
  | (j, v) :: r, h, t => by
    simp only [List.all_cons, Bool.and_eq_true] at h
    rw [get_cons]
    by_cases hj : j = t
    · rw [if_pos hj]; exact h.1
    · rw [if_neg hj]; exact get_all h.2 t
theorem lk_all {n : Nat} : ∀ {hp : Heap}, (hp.all fun x => Nat.blt x.1 n && inBk (fun id => Nat.blt id n) x.2) = true → ∀ t, lk hp t ≠ .dead → t < n ∧ inBk (fun id => Nat.blt id n) (lk hp t) = true
  | [], _, t, hd => absurd rfl hd
  | (j, v) :: r, h, t, hd => by
    simp only [List.all_cons, Bool.and_eq_true] at h
    rw [lk_cons] at hd ⊢
    by_cases hj : j = t
    · subst hj; rw [if_pos rfl] at hd ⊢; exact ⟨by simpa [Nat.blt_eq] using h.1.1, h.1.2⟩
    · rw [if_neg hj] at hd ⊢; exact lk_all h.2 t hd

theorem Weak.use {n0 : Nat} {l : List Nat} {st st' : St} (hw : Weak n0 l st st') {G : Nat → Option (List D)} {nt : Nat} {c : Cf} {a : Act} (hr : SR G nt c st a) : ∃ c', Ext c n0 c' ∧ c'.w = c.w ∧ n0 ≤ st'.n ∧ SR G nt c' st' a := by
  have hsg := hw.sg
  simp only [okSig, Bool.and_eq_true] at hsg
  obtain ⟨⟨s1, s2⟩, s3⟩ := hsg
  have hok := hw.ok
  simp only [okW, Bool.and_eq_true] at hok
  obtain ⟨k1, k2⟩ := hok
  have inj : ∀ i j, i < st'.n → j < st'.n → sig l i = sig l j → i = j := by
    intro i j hi hj he
    rw [List.all_eq_true] at s2
    have h1 := s2 i (List.mem_range.2 hi)
    rw [List.all_eq_true] at h1
    have h2 := h1 j (List.mem_range.2 hj)
    rw [he] at h2
    simpa using h2
  have low : ∀ i, i < n0 → sig l i = i := by
    intro i hi
    rw [List.all_eq_true] at s3
    simpa using s3 i (List.mem_range.2 hi)
  let c' : Cf := { c with bk := fun id => c.bk (sig l id), ln := fun id => c.ln (sig l id) }
  have un : ∀ (x : V) (v : Value), RelV c st.n (renV (sig l) x) v → inB (fun id => Nat.blt id st'.n) x = true → RelV c' st'.n x v := fun x v h hi => RelV.unren (c := c) (c' := c') (σ := sig l) rfl rfl (fun id _ => ⟨rfl, rfl⟩) x v h hi
  have own : ∀ id, (lk st'.h id).own = true → lk st.h (sig l id) = renB (sig l) (lk st'.h id) ∧ (lk st.h (sig l id)).own = true ∧ id < st'.n := by
    intro id ho
    have hl : lk st'.h id ≠ .dead := by intro h; rw [h] at ho; cases ho
    have h1 := heapW_get hw.hp id hl
    refine ⟨h1, ?_, (lk_all k2 id hl).1⟩
    rw [h1]
    cases hb : lk st'.h id <;> rw [hb] at ho <;> first | (cases ho; done) | rfl
  refine ⟨c', ⟨Nat.le_refl _, fun _ h => ⟨h, rfl⟩, fun _ cs _ _ h => ⟨cs, h, rfl⟩, fun id hid => ?_, fun id hid => ?_, rfl, rfl, fun _ _ => rfl, rfl, rfl, rfl⟩, rfl, Nat.le_of_ble_eq_true s1, hr.g, ⟨hr.s.glob, fun t => ?_⟩, ?_, hr.size, hr.defers⟩
  · show c.bk (sig l id) = c.bk id
    rw [low id hid]
  · show c.ln (sig l id) = c.ln id
    rw [low id hid]
  · rcases slotsW_get hw.sl t with h | h
    · rw [h]; exact .junk _
    · refine un _ _ ?_ (get_all k1 t)
      rw [← h]; exact hr.s.get t
  · have b := hr.h
    refine ⟨fun id hl => (lk_all k2 id hl).1, fun id cs hb => ?_, fun id w xs hb => ?_, fun id w xs hb => ?_, fun id ho => ?_, fun id id' ho ho' hbk => ?_, b.low, fun id ho => ?_, b.disj, b.lowK⟩
    · have hl : lk st'.h id ≠ .dead := by rw [hb]; simp
      have h1 := heapW_get hw.hp id hl
      rw [hb] at h1
      obtain ⟨vs, e, h2, h3, h4⟩ := b.box _ _ h1
      have hi := (lk_all k2 id hl).2
      rw [hb] at hi
      refine ⟨vs, e, h2, by rw [h3, renVs_len], fun j x hj => ?_⟩
      obtain ⟨h5, h6⟩ := h4 j (renV (sig l) x) (by rw [renVs_get, hj]; rfl)
      exact ⟨un x _ h5 (inBs_all hi j x hj), h6⟩
    · have hl : lk st'.h id ≠ .dead := by rw [hb]; simp
      have h1 := heapW_get hw.hp id hl
      rw [hb] at h1
      exact b.arr _ _ _ h1
    · have hl : lk st'.h id ≠ .dead := by rw [hb]; simp
      have h1 := heapW_get hw.hp id hl
      rw [hb] at h1
      exact b.fz _ _ _ h1
    · exact b.own _ (own id ho).2.1
    · exact inj id id' (own id ho).2.2 (own id' ho').2.2 (b.inj _ _ (own id ho).2.1 (own id' ho').2.1 hbk)
    · exact b.ownK _ (own id ho).2.1

/-! ### rounds -/
def LoopN (P : Program) (G : Nat → Option (List D)) (nt n0 : Nat) (body : Code) (st : St) (q : X × St) : Prop :=
  ∃ n, n0 ≤ st.n → ∀ (c : Cf) (a : Act) (Q : Exit → Act → World → Prop), SR G nt c st a → (∀ a' c', Ext c n0 c' → n0 ≤ q.2.n → SR G nt c' q.2 a' → Q (exitOf q.1) a' c'.w) → Code.rounds P body Q n a c.w
section
variable {G : Nat → Option (List D)} {nt n0 : Nat} {body : Code}
theorem LoopN.code {st : St} {q : X × St} (h : LoopN P G nt n0 body st q) : CodeN P G nt n0 (.loop body) st q := by
  obtain ⟨n, h⟩ := h
  intro h0 c a Q hr hQ
  exact wp_loop_rounds n (h h0 c a Q hr hQ)
theorem LoopN.out {st : St} {q : X × St} (h : CodeN P G nt n0 body st q) (hq : q.1 ≠ .n) : LoopN P G nt n0 body st q := by
  refine ⟨1, fun h0 c a Q hr hQ => ?_⟩
  rw [rounds_succ]
  refine h h0 c a _ hr fun a' c' hx hn hr' => ?_
  have := hQ a' c' hx hn hr'
  obtain ⟨x', st'⟩ := q
  cases x' with
  | n => exact absurd rfl hq
  | ret => exact this
  | exit id => exact this
theorem LoopN.next {st st1 : St} {q : X × St} (h : CodeN P G nt n0 body st (.n, st1)) (hl : LoopN P G nt n0 body st1 q) : LoopN P G nt n0 body st q := by
  obtain ⟨n, hl⟩ := hl
  refine ⟨n + 1, fun h0 c a Q hr hQ => ?_⟩
  rw [rounds_succ]
  refine h h0 c a _ hr fun a' c' hx hn hr' => ?_
  exact hl hn c' a' Q hr' fun a2 c2 hx2 hn2 hr2 => hQ a2 c2 (hx.trans hx2 (Nat.le_refl _)) hn2 hr2
theorem LoopN.weak {l : List Nat} {st st1 : St} {q : X × St} (hw : Weak n0 l st st1) (hl : LoopN P G nt n0 body st1 q) : LoopN P G nt n0 body st q := by
  obtain ⟨n, hl⟩ := hl
  refine ⟨n, fun h0 c a Q hr hQ => ?_⟩
  obtain ⟨c', hx, hw', hn, hr'⟩ := hw.use hr
  have := hl hn c' a Q hr' fun a2 c2 hx2 hn2 hr2 => hQ a2 c2 (hx.trans hx2 (Nat.le_refl _)) hn2 hr2
  rw [hw'] at this
  exact this
theorem CodeN.weak {code : Code} {l : List Nat} {st st1 : St} {q : X × St} (hw : Weak n0 l st st1) (hl : CodeN P G nt n0 code st1 q) : CodeN P G nt n0 code st q := by
  intro h0 c a Q hr hQ
  obtain ⟨c', hx, hw', hn, hr'⟩ := hw.use hr
  have := hl hn c' a Q hr' fun a2 c2 hx2 hn2 hr2 => hQ a2 c2 (hx.trans hx2 (Nat.le_refl _)) hn2 hr2
  rw [hw'] at this
  exact this
theorem CodeN.weak_out {code : Code} {l : List Nat} {st st1 st2 : St} {x : X} (hl : CodeN P G nt n0 code st (x, st1)) (hw : Weak n0 l st1 st2) : CodeN P G nt n0 code st (x, st2) := by
  intro h0 c a Q hr hQ
  refine hl h0 c a Q hr fun a1 c1 hx1 hn1 hr1 => ?_
  obtain ⟨c', hx, hw', hn, hr'⟩ := hw.use hr1
  have := hQ a1 c' (hx1.trans hx (Nat.le_refl _)) hn hr'
  rw [hw'] at this
  exact this
theorem LoopN.weak_out {l : List Nat} {st st1 st2 : St} {x : X} (hl : LoopN P G nt n0 body st (x, st1)) (hw : Weak n0 l st1 st2) : LoopN P G nt n0 body st (x, st2) := by
  obtain ⟨n, hl⟩ := hl
  refine ⟨n, fun h0 c a Q hr hQ => ?_⟩
  refine hl h0 c a Q hr fun a1 c1 hx1 hn1 hr1 => ?_
  obtain ⟨c', hx, hw', hn, hr'⟩ := hw.use hr1
  have := hQ a1 c' (hx1.trans hx (Nat.le_refl _)) hn hr'
  rw [hw'] at this
  exact this
end

/-- a piece of code, run on what is not told, told -/
theorem evK_code {H : HK} (hok : HKOK P H) {L : Loops} {nt n0 : Nat} {c : Code} {k : Nat} {st : St} {q : X × St} (hk : okCode nt c = true) (hL : LoopsSem P H.G nt n0 L c k) (h : evK P H L c k st (fun x st' => some (x, st')) = some q) : CodeN P H.G nt n0 c st q := by
  obtain ⟨x, st', h1, h2⟩ := evK_sound (n0 := n0) hok c k st _ hk hL h
  injection h2 with h2
  subst h2
  exact h1

/-- a function's places, by their numbers -/
def nodeOf (P : Program) (g : FuncId) (k : Nat) : Code := match fnOf P g with
  | some d => match nodeAt d.code k with
    | some c => c
    | none => .skip
  | none => .skip
def bodyOf (P : Program) (g : FuncId) (k : Nat) : Code := match nodeOf P g k with
  | .loop c => c
  | _ => .skip
def ntOf (P : Program) (g : FuncId) : Nat := match fnOf P g with
  | some d => d.nt
  | none => 0
/-- what is told of a function's place is so -/
def ToldOK (P : Program) (G : Nat → Option (List D)) (n0 : Nat) (g : FuncId) (k : Nat) (t : Told) : Prop := ∀ s, t = .yes s → SummOK P G (ntOf P g) n0 (nodeOf P g k) s
theorem loopsOf {G : Nat → Option (List D)} {n0 : Nat} {g : FuncId} {L : Loops} (h : ∀ k, ToldOK P G n0 g k (L k)) : LoopsOf P G n0 L g := by
  intro d hd k node hb s hs
  rw [Nat.zero_add] at hs
  have h1 := h k s hs
  have e1 : ntOf P g = d.nt := by simp only [ntOf, hd]
  have e2 : nodeOf P g k = node := by simp only [nodeOf, hd, hb]
  rw [e1, e2] at h1
  exact h1
theorem told_no {G : Nat → Option (List D)} {n0 : Nat} {g : FuncId} {k : Nat} : ToldOK P G n0 g k .no := fun s h => by cases h
theorem told_yes {G : Nat → Option (List D)} {n0 : Nat} {g : FuncId} {k : Nat} {s : Summ} (h : SummOK P G (ntOf P g) n0 (nodeOf P g k) s) : ToldOK P G n0 g k (.yes s) := fun s' h' => by
  injection h' with h'; subst h'; exact h
/-- a row, out of the tree -/
theorem row_of {H : HK} (hok : HKOK P H) {L : Loops} {g : FuncId} (hL : LoopsOf P H.G 0 L g) {ds : List D} {q : D} (h : pcallK P H L g ds some = some q) : Enters P g ∧ PCall P H.G g ds q := by
  obtain ⟨d, h1, h2, h3⟩ := pcallK_sound hok hL h
  injection h3 with h3
  subst h3
  exact ⟨h1, h2⟩
end Go.Fw
end
section
/- Keeping of a state what is looked at later. By this session. -/
set_option linter.unusedVariables false
set_option linter.unusedSimpArgs false
namespace Go.Fw
variable {P : Program} {α : Type} {r : α}

/-- the place of a number in a list -/
def posIn : List Nat → Nat → Nat → Nat
  | [], _, id => id
  | a :: l, k, id => bif a == id then k else posIn l (k + 1) id
def numB (l : List Nat) (hp : Heap) : Nat → List Nat → Heap
  | _, [] => []
  | k, a :: rest => (k, renB (posIn l 0) (lk hp a)) :: numB l hp (k + 1) rest
def keepR (ks l : List Nat) (st : St) : St := ⟨ks.map fun k => (k, renV (posIn l 0) (get st.f k)), l.length, numB l st.h 0 l⟩
def okKeep (n0 : Nat) (ks l : List Nat) (st : St) : Bool :=
  (ks.all fun k => inB (hasN l) (get st.f k)) && (l.all fun a => inBk (hasN l) (lk st.h a)) && okSig n0 l.length l
def keepK (n0 : Nat) (ks l : List Nat) (st : St) (K : St → Option α) : Option α := bif okKeep n0 ks l st then K (keepR ks l st) else none

theorem posIn_spec : ∀ {l : List Nat} {k id : Nat}, hasN l id = true → k ≤ posIn l k id ∧ posIn l k id < k + l.length ∧ l[posIn l k id - k]? = some id
  | [], k, id, h => by cases h
  | a :: l, k, id, h => by
    simp only [hasN, Bool.or_eq_true] at h
    simp only [posIn]
    cases ha : (a == id)
    · rw [ha] at h
      obtain ⟨h1, h2, h3⟩ := posIn_spec (k := k + 1) (h.resolve_left (by simp))
      simp only [cond_false, List.length_cons]
      refine ⟨by omega, by omega, ?_⟩
      rw [show posIn l (k + 1) id - k = posIn l (k + 1) id - (k + 1) + 1 by omega, List.getElem?_cons_succ]
      exact h3
    · have : a = id := by simpa using ha
      subst this
      simp
theorem sig_pos {l : List Nat} {id : Nat} (h : hasN l id = true) : sig l (posIn l 0 id) = id := by
  obtain ⟨_, h2, h3⟩ := posIn_spec (k := 0) h
  simp only [Nat.sub_zero] at h3
  simp [sig, h3]
mutual
theorem ren_ren {l : List Nat} : ∀ (x : V), inB (hasN l) x = true → renV (sig l) (renV (posIn l 0) x) = x
  | .d _, _ => rfl
  | .ag cs, h => by simp only [renV]; rw [rens_rens cs h]
  | .tp cs, h => by simp only [renV]; rw [rens_rens cs h]
  | .fn _ cs, h => by simp only [renV]; rw [rens_rens cs h]
  | .pt id o, h => by simp only [renV]; rw [sig_pos h]
  | .mf id w, h => by simp only [renV]; rw [sig_pos h]
  | .ms id w o n, h => by simp only [renV]; rw [sig_pos h]
  | .ep id w k c, h => by simp only [renV]; rw [sig_pos h]
  | .rp _ _, _ => rfl
  | .fl _ _, _ => rfl
  | .junk, _ => rfl
theorem rens_rens {l : List Nat} : ∀ (cs : List V), inBs (hasN l) cs = true → renVs (sig l) (renVs (posIn l 0) cs) = cs
  | [], _ => rfl
  | x :: cs, h => by
    simp only [inBs, Bool.and_eq_true] at h
    simp only [renVs]
    rw [ren_ren x h.1, rens_rens cs h.2]
end
mutual
theorem inB_ren {l : List Nat} : ∀ (x : V), inB (hasN l) x = true → inB (fun id => Nat.blt id l.length) (renV (posIn l 0) x) = true
  | .d _, _ => rfl
  | .ag cs, h => inBs_ren cs h
  | .tp cs, h => inBs_ren cs h
  | .fn _ cs, h => inBs_ren cs h
  | .pt id o, h => pos h
  | .mf id w, h => pos h
  | .ms id w o n, h => pos h
  | .ep id w k c, h => pos h
  | .rp _ _, _ => rfl
  | .fl _ _, _ => rfl
  | .junk, _ => rfl
theorem inBs_ren {l : List Nat} : ∀ (cs : List V), inBs (hasN l) cs = true → inBs (fun id => Nat.blt id l.length) (renVs (posIn l 0) cs) = true
  | [], _ => rfl
  | x :: cs, h => by
    simp only [inBs, Bool.and_eq_true] at h
    simp only [renVs, inBs, Bool.and_eq_true]
    exact ⟨inB_ren x h.1, inBs_ren cs h.2⟩
theorem pos {l : List Nat} {id : Nat} (h : hasN l id = true) : Nat.blt (posIn l 0 id) l.length = true := by
  have := (posIn_spec (k := 0) h).2.1
  rw [Nat.blt_eq]; omega
end
theorem keep_slots {f : Slots} {l : List Nat} : ∀ (ks : List Nat), (ks.all fun k => inB (hasN l) (get f k)) = true → slotsW f (sig l) (ks.map fun k => (k, renV (posIn l 0) (get f k)))
  | [], _ => trivial
  | k :: ks, h => by
    simp only [List.all_cons, Bool.and_eq_true] at h
    exact ⟨(ren_ren _ h.1).symm, keep_slots ks h.2⟩
theorem keep_heap {h : Heap} {l : List Nat} : ∀ (rest : List Nat) (k : Nat), (∀ i a, rest[i]? = some a → sig l (k + i) = a) → (rest.all fun a => inBk (hasN l) (lk h a)) = true → heapW h (sig l) (numB l h k rest)
  | [], _, _, _ => trivial
  | a :: rest, k, hs, hb => by
    simp only [List.all_cons, Bool.and_eq_true] at hb
    refine ⟨fun _ => ?_, keep_heap rest (k + 1) (fun i a hi => ?_) hb.2⟩
    · have h1 := hs 0 a rfl
      rw [Nat.add_zero] at h1
      rw [h1]
      have h2 := hb.1
      cases hl : lk h a with
      | box cs =>
        rw [hl] at h2
        simp only [renB]
        rw [rens_rens cs h2]
      | _ => rfl
    · have := hs (i + 1) a (by simpa using hi)
      rw [← this]; congr 1; omega
theorem numB_all {hp : Heap} {l : List Nat} : ∀ (rest : List Nat) (k : Nat), k + rest.length ≤ l.length → (rest.all fun a => inBk (hasN l) (lk hp a)) = true →
    ((numB l hp k rest).all fun x => Nat.blt x.1 l.length && inBk (fun id => Nat.blt id l.length) x.2) = true
  | [], _, _, _ => rfl
  | a :: rest, k, hk, hb => by
    simp only [List.all_cons, Bool.and_eq_true] at hb
    simp only [List.length_cons] at hk
    simp only [numB, List.all_cons, Bool.and_eq_true]
    refine ⟨⟨by rw [Nat.blt_eq]; omega, ?_⟩, numB_all rest (k + 1) (by omega) hb.2⟩
    have h2 := hb.1
    cases hl : lk hp a with
    | box cs =>
      rw [hl] at h2
      exact inBs_ren cs h2
    | _ => rfl
theorem keep_weak {n0 : Nat} {ks l : List Nat} {st : St} (h : okKeep n0 ks l st = true) : Weak n0 l st (keepR ks l st) := by
  simp only [okKeep, Bool.and_eq_true] at h
  obtain ⟨⟨h1, h2⟩, h3⟩ := h
  refine ⟨keep_slots ks h1, keep_heap l 0 (fun i a hi => by simp [sig, hi]) h2, ?_, h3⟩
  simp only [okW, keepR, Bool.and_eq_true]
  refine ⟨?_, numB_all l 0 (by omega) h2⟩
  rw [List.all_map]
  rw [List.all_eq_true] at h1 ⊢
  intro k hk
  exact inB_ren _ (h1 k hk)

/-- what is kept, by how the code ends -/
abbrev Keep := X → List Nat × List Nat
def endK (n0 : Nat) (kp : Keep) (x : X) (st : St) : Option (X × St) := keepK n0 (kp x).1 (kp x).2 st fun s => some (x, s)
theorem evK_end {H : HK} (hok : HKOK P H) {L : Loops} {nt n0 : Nat} {c : Code} {k : Nat} {st : St} {q : X × St} {kp : Keep} (hk : okCode nt c = true) (hL : LoopsSem P H.G nt n0 L c k) (h : evK P H L c k st (endK n0 kp) = some q) : CodeN P H.G nt n0 c st q := by
  obtain ⟨x, st', h1, h2⟩ := evK_sound (n0 := n0) hok c k st _ hk hL h
  unfold endK keepK at h2
  obtain ⟨h3, h4⟩ := cond_some h2
  injection h4 with h4
  subst h4
  exact h1.weak_out (keep_weak h3)
/-! ### rounds, in general -/
/-- is there an end? -/
def Turns {S R : Type} (t : S → Option (S ⊕ R)) : Nat → S → Option R
  | 0, _ => none
  | n + 1, s => match t s with
    | some (.inl s') => Turns t n s'
    | some (.inr r) => some r
    | none => none
theorem turns_mono {S R : Type} (t : S → Option (S ⊕ R)) : ∀ (n : Nat) (s : S) (r : R), Turns t n s = some r → Turns t (n + 1) s = some r
  | 0, s, r, h => by cases h
  | n + 1, s, r, h => by
    rw [Turns] at h ⊢
    cases ht : t s with
    | none => rw [ht] at h; cases h
    | some q =>
      rw [ht] at h
      cases q with
      | inl s' => exact turns_mono t n s' r h
      | inr r' => exact h
theorem turns_le {S R : Type} (t : S → Option (S ⊕ R)) {n m : Nat} (hm : n ≤ m) {s : S} {r : R} (h : Turns t n s = some r) : Turns t m s = some r := by
  induction hm with
  | refl => exact h
  | step _ ih => exact turns_mono t _ _ _ ih
open Classical in
/-- all rounds at once -/
noncomputable def rounds {S R : Type} (t : S → Option (S ⊕ R)) (s : S) : Option R := if h : ∃ n r, Turns t n s = some r then some (Classical.choose (Classical.choose_spec h)) else none
theorem rounds_some {S R : Type} {t : S → Option (S ⊕ R)} {s : S} {r : R} : rounds t s = some r ↔ ∃ n, Turns t n s = some r := by
  unfold rounds
  constructor
  · intro h
    split at h
    · rename_i hx
      injection h with h
      subst h
      exact ⟨_, Classical.choose_spec (Classical.choose_spec hx)⟩
    · cases h
  · rintro ⟨n, hn⟩
    have hx : ∃ n r, Turns t n s = some r := ⟨n, r, hn⟩
    rw [dif_pos hx]
    have h2 := Classical.choose_spec (Classical.choose_spec hx)
    have h3 := turns_le t (Nat.le_max_left n (Classical.choose hx)) hn
    have h4 := turns_le t (Nat.le_max_right n (Classical.choose hx)) h2
    rw [h3] at h4
    injection h4 with h4
    rw [← h4]
/-- round by round -/
theorem rounds_eq {S R : Type} (t : S → Option (S ⊕ R)) (s : S) : rounds t s = match t s with
    | some (.inl s') => rounds t s'
    | some (.inr r) => some r
    | none => none := by
  apply Option.ext
  intro r
  rw [rounds_some]
  cases ht : t s with
  | none =>
    simp only [reduceCtorEq, iff_false]
    rintro ⟨n, hn⟩
    cases n with
    | zero => cases hn
    | succ n => rw [Turns, ht] at hn; cases hn
  | some x =>
    cases x with
    | inl s' =>
      simp only [rounds_some]
      constructor
      · rintro ⟨n, hn⟩
        cases n with
        | zero => cases hn
        | succ n => rw [Turns, ht] at hn; exact ⟨n, hn⟩
      · rintro ⟨n, hn⟩
        exact ⟨n + 1, by rw [Turns, ht]; exact hn⟩
    | inr r' =>
      simp only
      constructor
      · rintro ⟨n, hn⟩
        cases n with
        | zero => cases hn
        | succ n => rw [Turns, ht] at hn; exact hn
      · intro h
        exact ⟨1, by rw [Turns, ht]; exact h⟩

section
variable {G : Nat → Option (List D)} {nt n0 : Nat}
theorem loopN_turns {body : Code} {S R : Type} {t : S → Option (S ⊕ R)} {e : S → St} {x : R → X × St} (hx : ∀ r, (x r).1 ≠ .n)
    (h1 : ∀ s s', t s = some (.inl s') → CodeN P G nt n0 body (e s) (.n, e s')) (h2 : ∀ s r, t s = some (.inr r) → CodeN P G nt n0 body (e s) (x r)) : ∀ (n : Nat) (s : S) (r : R), Turns t n s = some r → LoopN P G nt n0 body (e s) (x r)
  | 0, s, r, h => by cases h
  | n + 1, s, r, h => by
    rw [Turns] at h
    split at h
    · rename_i s' hs
      exact LoopN.next (h1 s s' hs) (loopN_turns hx h1 h2 n s' r h)
    · rename_i r' hs
      injection h with h
      subst h
      exact LoopN.out (h2 s r' hs) (hx r')
    · cases h
end
end Go.Fw
end
