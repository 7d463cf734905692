/- What a call hands back, and how the caller has it. By this session. -/
import Derived.Test.YtloambokbipnjaaFm
set_option linter.unusedVariables false
set_option linter.unusedSimpArgs false
namespace Go.Fw
variable {P : Program}

/-- a slice that nobody else has -/
def FrOK (w : World) (I K : Mem) (wd : Nat) (xs : List D) (v : Value) : Prop :=
  ∃ (a : Addr) (cap : Nat), v = .slice (some a) xs.length cap ∧ xs.length ≤ cap ∧ a.spot = none ∧ (a.off = 0 ∨ cap = 0) ∧ ¬ I a.block ∧ ¬ K a.block ∧
    Arr ⟨w, I, K, fun _ => a.block, fun _ => none⟩ 0 wd xs ∧ ∃ cs e fz, w.heap[a.block]? = some (.cells cs e fz) ∧ cap * wd ≤ cs.size ∧ a.off ≤ cs.size
def RelT (w : World) (I K : Mem) : D → Value → Prop
  | .fr wd xs, v => FrOK w I K wd xs v
  | d, v => RelD w I d v
def frB : D → Value → Option Nat
  | .fr _ _, .slice (some a) _ _ => some a.block
  | _, _ => none
def RelTs (w : World) (I K : Mem) : List D → List Value → Prop
  | [], [] => True
  | d :: ds, v :: vs => RelT w I K d v ∧ RelTs w I K ds vs ∧ ∀ b, frB d v = some b → ∀ (j : Nat) (d' : D) (v' : Value), ds[j]? = some d' → vs[j]? = some v' → frB d' v' ≠ some b
  | _, _ => False
/-- what a function hands back -/
def RelX (w : World) (I K : Mem) : D → Value → Prop
  | .tp ds, v => ∃ vs : Array Value, v = .tuple vs ∧ RelTs w I K ds vs.toList
  | d, v => RelT w I K d v

def isFr : D → Bool
  | .fr _ _ => true
  | _ => false
theorem RelT.of_rel {w : World} {I K : Mem} {d : D} {v : Value} (h : RelD w I d v) : RelT w I K d v := by
  cases d <;> first | exact h | cases h
theorem frz_noFr {hp hp' : Heap} {v : V} {d : D} (h : frz hp v = some (d, hp')) (hv : ∀ x, v = .d x → isFr x = false) : isFr d = false := by
  cases v <;> simp only [frz] at h
  case d x => injection h with h; injection h with h1 h2; subst h1; exact hv x rfl
  case ag cs =>
    split at h
    · injection h with h; injection h with h1 h2; subst h1; rfl
    · cases h
  case fn g cs =>
    split at h
    · injection h with h; injection h with h1 h2; subst h1; rfl
    · cases h
  case ms =>
    split at h
    · obtain ⟨_, h⟩ := cond_some h; injection h with h; injection h with h1 h2; subst h1; rfl
    · obtain ⟨_, h⟩ := cond_some h; injection h with h; injection h with h1 h2; subst h1; rfl
    · cases h
  case fl => injection h with h; injection h with h1 h2; subst h1; rfl
  all_goals cases h

theorem rel_noFr {c : Cf} {n : Nat} {v : V} {val : Value} (h : RelV c n v val) : ∀ x, v = .d x → isFr x = false := by
  rintro x rfl
  have := h.inv_d
  cases x <;> first | rfl | cases this

theorem expTop_sound {c : Cf} {n : Nat} {hp hp' : Heap} {v : V} {d : D} {val : Value} (h : expTop hp v = some (d, hp')) (hH : RelH c n hp) (hv : RelV c n v val) :
    ∃ c', Frz c n hp hp' c' ∧ RelT c'.w c'.I c'.K d val ∧ ∀ b, frB d val = some b → (∀ id, (lk hp' id).own = true → c'.bk id ≠ b) ∧ ∃ id, (lk hp id).own = true ∧ c.bk id = b := by
  have plain : frz hp v = some (d, hp') → ∃ c', Frz c n hp hp' c' ∧ RelT c'.w c'.I c'.K d val ∧ ∀ b, frB d val = some b → (∀ id, (lk hp' id).own = true → c'.bk id ≠ b) ∧ ∃ id, (lk hp id).own = true ∧ c.bk id = b := by
    intro h
    obtain ⟨c', hF, hr⟩ := frz_sound v c hp hp' d val h hH hv
    refine ⟨c', hF, .of_rel hr, fun b hb => ?_⟩
    have hn := frz_noFr h (rel_noFr hv)
    cases d <;> first | cases hb | cases hn
  unfold expTop at h
  split at h
  · rename_i id w off len
    split at h
    · rename_i w' xs hl
      by_cases hc : (off == 0 && len == xs.length && w == w') = true
      · rw [hc] at h
        injection h with h
        injection h with h1 h2
        subst h1
        subst h2
        simp only [Bool.and_eq_true, beq_iff_eq] at hc
        obtain ⟨⟨rfl, rfl⟩, rfl⟩ := hc
        have ho : (lk hp id).own = true := by rw [hl]; rfl
        have hid : id < n := hH.lt id (by rw [hl]; simp)
        have hF : Frz c n hp ((id, .dead) :: hp) c := ⟨rfl, rfl, .refl c n, relH_dead hH hid, fun _ h => .inl h, fun id' h' => by
          rw [lk_cons] at h'
          split at h'
          · cases h'
          · exact h'⟩
        cases hv with
        | ms _ _ _ _ cap a hid' hcap ha hb ho' hs =>
          obtain ⟨cs, e, fz, h1, h2, h3⟩ := hs
          refine ⟨c, hF, ⟨a, cap, rfl, hcap, ha, by simpa using ho', by rw [hb]; exact hH.own id ho, by rw [hb]; exact hH.ownK id ho, ?_, cs, e, fz, by rw [hb]; exact h1, by simpa using h2, h3⟩, fun b hb' => ?_⟩
          · have := hH.arr id w xs hl
            unfold Arr at this ⊢
            rw [hb]
            exact this
          · simp only [frB, Option.some.injEq] at hb'
            rw [hb] at hb'
            refine ⟨fun id' h' he => ?_, id, ho, hb'⟩
            rw [lk_cons] at h'
            split at h'
            · cases h'
            · rename_i hne
              exact hne (hH.inj id id' ho h' (hb'.trans he.symm))
      · rw [Bool.eq_false_iff.mpr hc] at h
        exact plain h
    · exact plain h
  · exact plain h

theorem FrOK.mono {w w' : World} {I K I' K' : Mem} {wd : Nat} {xs : List D} {v : Value} (hw : w' = w) (hk : Kept w I w' I') (hK : K' = K) (h : FrOK w I K wd xs v) (hn : ∀ b, frB (.fr wd xs) v = some b → ¬ I' b) : FrOK w' I' K' wd xs v := by
  obtain ⟨a, cap, rfl, h1, h2, h3, h4, h5, h6, h7⟩ := h
  subst hw
  subst hK
  refine ⟨a, cap, rfl, h1, h2, h3, hn _ rfl, h5, ?_, h7⟩
  obtain ⟨vs, e, fz, g1, g2, g3, g4, g5, g6, g7⟩ := h6
  exact ⟨vs, e, fz, g1, g2, g3, g4, g5, g6, fun j k x d hj hd => (g7 j k x d hj hd).mono hk⟩
theorem RelT.mono {w w' : World} {I K I' K' : Mem} {d : D} {v : Value} (hw : w' = w) (hk : Kept w I w' I') (hK : K' = K) (h : RelT w I K d v) (hn : ∀ b, frB d v = some b → ¬ I' b) : RelT w' I' K' d v := by
  cases d with
  | fr wd xs => exact FrOK.mono hw hk hK h hn
  | _ => exact RelD.mono hk h

theorem expTops_sound {n : Nat} : ∀ (vs : List V) (c : Cf) (hp hp' : Heap) (ds : List D) (vals : List Value), expTops hp vs = some (ds, hp') → RelH c n hp → RelL c n vs vals →
    ∃ c', Frz c n hp hp' c' ∧ RelTs c'.w c'.I c'.K ds vals ∧ ∀ (j : Nat) (d : D) (v : Value) (b : Nat), ds[j]? = some d → vals[j]? = some v → frB d v = some b → (∀ id, (lk hp' id).own = true → c'.bk id ≠ b) ∧ ∃ id, (lk hp id).own = true ∧ c.bk id = b
  | [], c, hp, hp', ds, vals, h, hH, hv => by
    simp only [expTops, Option.some.injEq, Prod.mk.injEq] at h
    obtain ⟨rfl, rfl⟩ := h
    have : vals = [] := List.eq_nil_of_length_eq_zero (by simpa using hv.1)
    subst this
    exact ⟨c, .refl hH, trivial, by simp⟩
  | v :: vs, c, hp, hp', ds, vals, h, hH, hv => by
    simp only [expTops] at h
    split at h
    · rename_i d hp1 h1
      split at h
      · rename_i ds' hp2 h2
        simp only [Option.some.injEq, Prod.mk.injEq] at h
        obtain ⟨rfl, rfl⟩ := h
        obtain ⟨hlen, hrel⟩ := hv
        obtain ⟨u, hu, hru⟩ := hrel 0 v rfl
        cases vals with
        | nil => simp at hu
        | cons u' us =>
          simp only [List.getElem?_cons_zero, Option.some.injEq] at hu
          subst hu
          obtain ⟨c1, hF1, hd1, hb1⟩ := expTop_sound h1 hH hru
          have hrel' : RelL c1 n vs us := ⟨by simpa using hlen, fun j x hj => by
            obtain ⟨y, hy, hry⟩ := hrel (j + 1) x (by simpa using hj)
            exact ⟨y, by simpa using hy, hry.mono hF1.ext (Nat.le_refl n)⟩⟩
          obtain ⟨c2, hF2, hr2, hb2⟩ := expTops_sound vs c1 hp1 hp2 ds' us h2 hF1.heap hrel'
          have hne : ∀ b, frB d u' = some b → ∀ id, (lk hp1 id).own = true → c1.bk id ≠ b := fun b hb => (hb1 b hb).1
          refine ⟨c2, hF1.trans hF2, ⟨hd1.mono hF2.w hF2.ext.kept hF2.ext.K ?_, hr2, ?_⟩, ?_⟩
          · intro b hb hI
            rcases hF2.new b hI with hI | ⟨id, ho, he⟩
            · cases d with
              | fr wd xs =>
                obtain ⟨a, cap, rfl, _, _, _, hnI, _⟩ := hd1
                simp only [frB, Option.some.injEq] at hb
                subst hb
                exact hnI hI
              | _ => cases hb
            · exact hne b hb id ho he
          · intro b hb j d' v' hj hv' hb'
            obtain ⟨_, id, ho, he⟩ := hb2 j d' v' b hj hv' hb'
            exact hne b hb id ho he
          · intro j d' v' b hj hv' hb'
            cases j with
            | zero =>
              simp only [List.getElem?_cons_zero, Option.some.injEq] at hj hv'
              subst hj
              subst hv'
              obtain ⟨g1, g2⟩ := hb1 b hb'
              exact ⟨fun id ho => by rw [hF2.bk]; exact g1 id (hF2.shr id ho), g2⟩
            | succ j =>
              obtain ⟨g1, id, g2, g3⟩ := hb2 j d' v' b (by simpa using hj) (by simpa using hv') hb'
              exact ⟨g1, id, hF1.shr id g2, by rw [← g3, hF1.bk]⟩
      · cases h
    · cases h

theorem RelTs_plain {w : World} {I K : Mem} : ∀ {ds : List D} {vs : List Value}, vs.length = ds.length → (∀ (j : Nat) (d : D), ds[j]? = some d → ∃ v, vs[j]? = some v ∧ RelD w I d v) → RelTs w I K ds vs
  | [], vs, hl, h => by
    have : vs = [] := List.eq_nil_of_length_eq_zero (by simpa using hl)
    subst this; trivial
  | d :: ds, vs, hl, h => by
    cases vs with
    | nil => simp at hl
    | cons v vs =>
      obtain ⟨v', hv, hr⟩ := h 0 d rfl
      simp only [List.getElem?_cons_zero, Option.some.injEq] at hv
      subst hv
      refine ⟨.of_rel hr, RelTs_plain (by simpa using hl) (fun j d hj => by simpa using h (j + 1) d (by simpa using hj)), fun b hb => ?_⟩
      cases d <;> first | cases hb | cases hr

theorem expD_sound {c : Cf} {n : Nat} {hp : Heap} {v : V} {d : D} {val : Value} (h : expD hp v = some d) (hH : RelH c n hp) (hv : RelV c n v val) :
    ∃ c' hp', Frz c n hp hp' c' ∧ RelX c'.w c'.I c'.K d val := by
  unfold expD at h
  split at h
  · rename_i vs
    obtain ⟨⟨ds, hp'⟩, he, rfl⟩ := Option.map_eq_some_iff.1 h
    cases hv with
    | tp _ us hl hh =>
      obtain ⟨c', hF, hr, _⟩ := expTops_sound vs c hp hp' ds us.toList he hH ⟨by simpa using hl, fun j x hj => by
        have hlt := (List.getElem?_eq_some_iff.1 hj).1
        refine ⟨us.getD j undef, ?_, hh j x hj⟩
        rw [Array.getElem?_toList, Array.getD_eq_getD_getElem?, Array.getElem?_eq_getElem (by omega)]; rfl⟩
      exact ⟨c', hp', hF, us, rfl, hr⟩
  · rename_i hnt
    obtain ⟨⟨d', hp'⟩, he, rfl⟩ := Option.map_eq_some_iff.1 h
    obtain ⟨c', hF, hr, _⟩ := expTop_sound he hH hv
    refine ⟨c', hp', hF, ?_⟩
    cases d' with
    | tp ds =>
      cases hr with
      | tp _ us hl hh =>
        refine ⟨us, rfl, RelTs_plain (by simpa using hl) fun j d hj => ?_⟩
        have hlt := (List.getElem?_eq_some_iff.1 hj).1
        refine ⟨us.getD j undef, ?_, hh j d hj⟩
        rw [Array.getElem?_toList, Array.getD_eq_getD_getElem?, Array.getElem?_eq_getElem (by omega)]; rfl
    | _ => exact hr

/-! the caller has it -/
theorem impTop_sound {c : Cf} {n : Nat} {hp : Heap} (hH : RelH c n hp) {d : D} {v : Value} (hr : RelT c.w c.I c.K d v) (hb : ∀ b, frB d v = some b → ∀ id, (lk hp id).own = true → c.bk id ≠ b) :
    ∃ c', c'.w = c.w ∧ c'.I = c.I ∧ Outs c n (impTop n hp d) v c' ∧ ∀ id, (lk (impTop n hp d).2.2 id).own = true → (lk hp id).own = true ∧ c'.bk id = c.bk id ∨ frB d v = some (c'.bk id) := by
  have plain : impTop n hp d = (.d d, n, hp) → RelD c.w c.I d v → ∃ c', c'.w = c.w ∧ c'.I = c.I ∧ Outs c n (impTop n hp d) v c' ∧ ∀ id, (lk (impTop n hp d).2.2 id).own = true → (lk hp id).own = true ∧ c'.bk id = c.bk id ∨ frB d v = some (c'.bk id) := by
    intro he hd
    rw [he]
    exact ⟨c, rfl, rfl, .same hH (.d _ _ hd), fun id ho => .inl ⟨ho, rfl⟩⟩
  cases d with
  | fr wd xs =>
    obtain ⟨a, cap, rfl, h1, h2, h3, h4, h5, h6, cs, e, fz, h7, h8, h9⟩ := hr
    let c' : Cf := { c with bk := fun k => if k = n then a.block else c.bk k }
    have hx : Ext c n c' := ⟨Nat.le_refl _, fun _ h => ⟨h, rfl⟩, fun _ cs _ _ h => ⟨cs, h, rfl⟩, fun id hid => by simp only [c']; rw [if_neg (by omega)], rfl, rfl, fun _ _ => rfl, rfl, rfl, rfl⟩
    have hbn : c'.bk n = a.block := by simp [c']
    have hm : RelH c' (n + 1) hp := hH.mono hx (Nat.le_succ n) (fun _ _ => rfl) (fun id ho => hH.own id ho) hH.low hH.disj
    have hA : Arr c' n wd xs := by
      unfold Arr at h6 ⊢
      rw [hbn]
      exact h6
    refine ⟨c', rfl, rfl, ⟨hx, Nat.le_succ n, hm.push (Nat.lt_succ_self n) ⟨hA, by rw [hbn]; exact h4⟩ (fun _ id' hne ho' => ?_) (fun _ => by rw [hbn]; exact h5), ?_⟩, fun id ho => ?_⟩
    · have hlt := hH.lt id' (by intro e; rw [e] at ho'; cases ho')
      rw [hbn, hx.bk id' hlt]
      exact fun e => hb _ rfl id' ho' e.symm
    · exact .ms n wd 0 xs.length cap a (Nat.lt_succ_self n) h1 h2 hbn.symm (by simpa using h3) ⟨cs, e, fz, by rw [hbn]; exact h7, by simpa using h8, h9⟩
    · simp only [impTop, lk_cons] at ho
      split at ho
      · rename_i e
        right
        rw [← e, hbn]; rfl
      · left
        have hlt := hH.lt id (by intro e; rw [e] at ho; cases ho)
        exact ⟨ho, hx.bk id hlt⟩
  | _ => exact plain rfl hr

theorem impTops_sound : ∀ (ds : List D) (c : Cf) (n : Nat) (hp : Heap) (vs : List Value), RelH c n hp → RelTs c.w c.I c.K ds vs →
    (∀ (j : Nat) (d : D) (v : Value) (b : Nat), ds[j]? = some d → vs[j]? = some v → frB d v = some b → ∀ id, (lk hp id).own = true → c.bk id ≠ b) →
    ∃ c', c'.w = c.w ∧ c'.I = c.I ∧ Ext c n c' ∧ n ≤ (impTops n hp ds).2.1 ∧ RelH c' (impTops n hp ds).2.1 (impTops n hp ds).2.2 ∧ RelL c' (impTops n hp ds).2.1 (impTops n hp ds).1 vs
  | [], c, n, hp, vs, hH, hr, hb => by
    cases vs with
    | nil => exact ⟨c, rfl, rfl, .refl c n, Nat.le_refl n, hH, rfl, by simp [impTops]⟩
    | cons a b => exact hr.elim
  | d :: ds, c, n, hp, vs, hH, hr, hb => by
    cases vs with
    | nil => exact hr.elim
    | cons v vs =>
      obtain ⟨h1, h2, h3⟩ := hr
      obtain ⟨c1, hw, hI, hO, hown⟩ := impTop_sound hH h1 (fun b hb' => hb 0 d v b rfl rfl hb')
      have hK : c1.K = c.K := hO.ext.K
      have hr' : RelTs c1.w c1.I c1.K ds vs := by rw [hw, hI, hK]; exact h2
      obtain ⟨c2, hw2, hI2, hx2, hn2, hH2, hL2⟩ := impTops_sound ds c1 (impTop n hp d).2.1 (impTop n hp d).2.2 vs hO.heap hr' (fun j d' v' b hj hv' hb' id ho => by
        rcases hown id ho with ⟨g1, g2⟩ | g
        · rw [g2]; exact hb (j + 1) d' v' b (by simpa using hj) (by simpa using hv') hb' id g1
        · intro e
          rw [e] at g
          exact h3 b g j d' v' hj hv' hb')
      refine ⟨c2, hw2.trans hw, hI2.trans hI, hO.ext.trans hx2 hO.le, Nat.le_trans hO.le hn2, hH2, ?_, fun j x hj => ?_⟩
      · simp only [impTops, List.length_cons]
        rw [hL2.1]
      · simp only [impTops] at hj ⊢
        cases j with
        | zero =>
          simp only [List.getElem?_cons_zero, Option.some.injEq] at hj
          subst hj
          exact ⟨v, rfl, hO.rel.mono hx2 hn2⟩
        | succ j => simpa using hL2.2 j x (by simpa using hj)

theorem RelT.weak {w : World} {I K K' : Mem} (hK : ∀ b, K' b → K b) {d : D} {v : Value} (h : RelT w I K d v) : RelT w I K' d v := by
  cases d with
  | fr wd xs =>
    obtain ⟨a, cap, rfl, h1, h2, h3, h4, h5, h6, h7⟩ := h
    exact ⟨a, cap, rfl, h1, h2, h3, h4, fun hk => h5 (hK _ hk), h6, h7⟩
  | _ => exact h
theorem RelT.frK {w : World} {I K : Mem} {d : D} {v : Value} (h : RelT w I K d v) {b : Nat} (hb : frB d v = some b) : ¬ K b := by
  cases d with
  | fr wd xs =>
    obtain ⟨a, cap, rfl, h1, h2, h3, h4, h5, h6, h7⟩ := h
    simp only [frB, Option.some.injEq] at hb
    subst hb
    exact h5
  | _ => cases hb
theorem RelTs.weak {w : World} {I K K' : Mem} (hK : ∀ b, K' b → K b) : ∀ {ds : List D} {vs : List Value}, RelTs w I K ds vs → RelTs w I K' ds vs
  | [], [], _ => trivial
  | d :: ds, v :: vs, h => ⟨h.1.weak hK, RelTs.weak hK h.2.1, h.2.2⟩
  | [], _ :: _, h => h.elim
  | _ :: _, [], h => h.elim
theorem RelTs.frK {w : World} {I K : Mem} : ∀ {ds : List D} {vs : List Value}, RelTs w I K ds vs → ∀ (j : Nat) (d : D) (v : Value) (b : Nat), ds[j]? = some d → vs[j]? = some v → frB d v = some b → ¬ K b
  | [], [], _, j, d, v, b, hj, _, _ => by simp at hj
  | d :: ds, v :: vs, h, j, d', v', b, hj, hv, hb => by
    cases j with
    | zero =>
      simp only [List.getElem?_cons_zero, Option.some.injEq] at hj hv
      subst hj
      subst hv
      exact h.1.frK hb
    | succ j => exact RelTs.frK h.2.1 j d' v' b (by simpa using hj) (by simpa using hv) hb
  | [], _ :: _, h, _, _, _, _, _, _, _ => h.elim
  | _ :: _, [], h, _, _, _, _, _, _, _ => h.elim

theorem impD_sound {c : Cf} {n : Nat} {hp : Heap} (hH : RelH c n hp) {d : D} {v : Value} {K : Mem} (hr : RelX c.w c.I K d v) (hK : ∀ b, c.K b → K b) (ho : ∀ id, (lk hp id).own = true → K (c.bk id)) :
    ∃ c', c'.w = c.w ∧ Outs c n (impD n hp d) v c' := by
  have go : ∀ d : D, RelT c.w c.I K d v → impD n hp d = impTop n hp d → ∃ c', c'.w = c.w ∧ Outs c n (impD n hp d) v c' := by
    intro d hr he
    obtain ⟨c', hw, hI, hO, _⟩ := impTop_sound hH (RelT.weak hK hr) (fun b hb id hid e => RelT.frK hr hb (e ▸ ho id hid))
    rw [he]
    exact ⟨c', hw, hO⟩
  cases d with
  | tp ds =>
    obtain ⟨vs, rfl, hT⟩ := hr
    obtain ⟨c', hw, hI, hx, hn, hH', hL⟩ := impTops_sound ds c n hp vs.toList hH (hT.weak hK) (fun j d v b hj hv hb id hid e => hT.frK j d v b hj hv hb (e ▸ ho id hid))
    refine ⟨c', hw, hx, hn, hH', ?_⟩
    refine mkTp_rel _ _ (by simpa using hL.1) (fun j x hj => ?_)
    obtain ⟨u, hu, hru⟩ := hL.2 j x hj
    rw [Array.getElem?_toList] at hu
    rw [Array.getD_eq_getD_getElem?, hu]
    exact hru
  | _ => exact go _ hr rfl

/-! calls -/
/-- a function that can be entered -/
def Enters (P : Program) (g : FuncId) : Prop := ∃ fn, P.funcs[g]? = some fn ∧ (fn.name == "runtime.NumGoroutine") = false ∧ fn.body.isNone = false
theorem Enters.run {g : FuncId} (h : Enters P g) (vs : Array Value) (w : World) : (callFunc g vs).run P w = .ok (.enter g vs) w := by
  obtain ⟨fn, h1, h2, h3⟩ := h
  unfold callFunc
  simp only [Sem.run_bind, run_program, Result.andThen_ok, h1, h2, h3, Bool.false_eq_true, if_false]
  rfl
/-- a call on plain data -/
def PCall (P : Program) (G : Nat → Option (List D)) (g : FuncId) (ds : List D) (r : D) : Prop :=
  ∀ (w : World) (I K : Mem) (vs : Array Value), Glob ⟨w, I, K, fun _ => 0, G⟩ → (∀ b, I b → b < w.heap.size) → (∀ b, K b → b < w.heap.size) → (∀ b, I b → ¬ K b) → vs.size = ds.length →
    (∀ (j : Nat) (d : D), ds[j]? = some d → RelD w I d (vs.getD j undef)) →
    Calls P g vs w fun e w' => ∃ v I', e = .returned v ∧ w.heap.size ≤ w'.heap.size ∧ Kept w I w' I' ∧ (∀ b, K b → w'.heap[b]? = w.heap[b]?) ∧ (∀ b, I' b → b < w'.heap.size ∧ ¬ K b) ∧
      (∀ (b : Nat) (cs : Array Value) (e : TypeId) (fz : Nat × Nat), w.heap[b]? = some (.cells cs e fz) → ∃ cs' : Array Value, w'.heap[b]? = some (.cells cs' e fz) ∧ cs'.size = cs.size) ∧
      w'.os = w.os ∧ w'.tape = w.tape ∧ w'.output = w.output ∧ RelX w' I' K r v
/-- a call in common memory -/
def MCall (P : Program) (G : Nat → Option (List D)) (g : FuncId) (xs : List V) (n : Nat) (hp : Heap) (r : V × Nat × Heap) : Prop :=
  ∀ (c : Cf) (vs : Array Value), c.G = G → Glob c → RelH c n hp → RelL c n xs vs.toList → Calls P g vs c.w fun e w' => ∃ v c', e = .returned v ∧ w' = c'.w ∧ Outs c n r v c'
/-- a function of the model's own -/
def ExtOK (P : Program) (g : FuncId) (f : List D → Option D) : Prop :=
  ∀ ds r, f ds = some r → ∀ (w : World) (I : Mem) (vs : Array Value), vs.size = ds.length → (∀ (j : Nat) (d : D), ds[j]? = some d → RelD w I d (vs.getD j undef)) → ∃ v, (callFunc g vs).run P w = .ok (.value v) w ∧ RelD w I r v

structure CallsOK (P : Program) (h : Hs) : Prop where
  ext : ∀ g f, h.ext g = some f → ExtOK P g f
  pcall : ∀ g ds r, h.pcall g ds = some r → Enters P g ∧ PCall P h.G g ds r
  call : ∀ g xs n hp r, h.call g xs n hp = some r → Enters P g ∧ MCall P h.G g xs n hp r

theorem callV_wp {h : Hs} (hok : CallsOK P h) {g : FuncId} {xs : List V} {n : Nat} {hp : Heap} {r : V × Nat × Heap} (he : callV h g xs n hp = some r) {c : Cf} {vs : Array Value} (hG : h.G = c.G) (hg : Glob c) (hH : RelH c n hp) (hL : RelL c n xs vs.toList)
    {o : Oper} {a : Act} {K : Act → World → Prop} {Q : Exit → Act → World → Prop} (hK : ∀ v c', Outs c n r v c' → K (a.put o.dst v) c'.w) : o.upon P a K Q ((callFunc g vs).run P c.w) := by
  unfold callV at he
  split at he
  · rename_i ds hp' hf
    obtain ⟨c1, hF, hlen, hrel⟩ := frzs_sound xs c hp hp' ds vs.toList hf hH hL
    have hsz : vs.size = ds.length := by rw [hlen, ← hL.1]; simp
    have hargs : ∀ (j : Nat) (d : D), ds[j]? = some d → RelD c1.w c1.I d (vs.getD j undef) := fun j d hj => by
      obtain ⟨v, hv, hrv⟩ := hrel j d hj
      rw [Array.getElem?_toList] at hv
      rw [Array.getD_eq_getD_getElem?, hv]; exact hrv
    split at he
    · rename_i f hfx
      split at he
      · rename_i r' hr
        injection he with he
        subst he
        obtain ⟨v, hrun, hrv⟩ := hok.ext g f hfx ds r' hr c1.w c1.I vs hsz hargs
        rw [hF.w] at hrun
        rw [hrun]
        have := hK v c1 ⟨hF.ext, Nat.le_refl n, hF.heap, .d _ _ hrv⟩
        rw [hF.w] at this
        exact this
      · cases he
    · split at he
      · rename_i r' hr
        injection he with he
        subst he
        let K' : Mem := fun b => b < c1.w.heap.size ∧ ¬ c1.I b
        obtain ⟨hent, hp1⟩ := hok.pcall g ds r' hr
        have hgl : Glob ⟨c1.w, c1.I, K', fun _ => 0, h.G⟩ := by
          have := hg.mono hF.ext
          intro g' cs hgc
          rw [hG, ← hF.ext.G] at hgc
          exact this g' cs hgc
        have hcall := hp1 c1.w c1.I K' vs hgl hF.heap.low (fun b hb => hb.1) (fun b hb hk => hk.2 hb) hsz hargs
        rw [hF.w] at hcall
        rw [hent.run]
        refine hcall.mono ?_
        rintro e w' ⟨v, I', rfl, h1, h2, h3, h4, h5, h6, h7, h8, h9⟩
        let c2 : Cf := { w := w', I := I', K := c1.K, bk := c1.bk, G := c1.G }
        have hKK : ∀ b, c1.K b → K' b := fun b hb => ⟨hF.heap.lowK b hb, fun hI => hF.heap.disj b hI hb⟩
        have hown : ∀ id, (lk hp' id).own = true → K' (c1.bk id) := fun id ho => ⟨own_lt hF.heap ho, hF.heap.own id ho⟩
        have hx : Ext c1 n c2 := by
          refine ⟨by rw [hF.w]; exact h1, ?_, ?_, fun _ _ => rfl, rfl, rfl, ?_, by rw [hF.w]; exact h6, by rw [hF.w]; exact h7, by rw [hF.w]; exact h8⟩
          · rw [hF.w]; exact h2
          · rw [hF.w]; exact h5
          · rw [hF.w]; exact fun b hb => h3 b (hKK b hb)
        have hH2 : RelH c2 n hp' := hF.heap.mono hx (Nat.le_refl n) (fun id ho => by rw [hF.w]; exact h3 _ (hown id ho)) (fun id ho hI => (h4 _ hI).2 (hown id ho)) (fun b hb => (h4 b hb).1) (fun b hb hk => (h4 b hb).2 (hKK b hk))
        obtain ⟨c3, hw3, hO⟩ := impD_sound (c := c2) hH2 (d := r') (v := v) (K := K') h9 hKK hown
        have := hK v c3 (hO.after (hF.ext.trans hx (Nat.le_refl n)))
        rw [hw3] at this
        exact this
      · cases he
  · split at he
    · cases he
    · obtain ⟨hent, hm⟩ := hok.call g xs n hp r he
      rw [hent.run]
      refine (hm c vs hG.symm hg hH hL).mono ?_
      rintro e w' ⟨v, c', rfl, rfl, hO⟩
      exact hK v c' hO

theorem calleeV_wp {h : Hs} (hok : CallsOK P h) {o : Oper} {cl : Call} {fo : Operand} (ho : o.op = .call cl) (hcl : cl.callee = .value fo) {f : Slots} {n : Nat} {hp : Heap} {r : V × Nat × Heap} {a : Act} {c : Cf}
    (he : calleeV h f fo (cl.args.toList.map (opV h.G f)) n hp = some r) (hG : h.G = c.G) (hs : RelS c n f a.tmps) (hH : RelH c n hp)
    {K : Act → World → Prop} {Q : Exit → Act → World → Prop} (hK : ∀ v c', Outs c n r v c' → K (a.put o.dst v) c'.w) : o.wp P a c.w K Q := by
  have hf := opV_rel hs fo
  have hargs := list_rel hs cl.args
  rw [← hG] at hf hargs
  unfold calleeV at he
  unfold Oper.wp
  have app : ∀ (ys : List V) (us : Array Value), RelL c n ys us.toList → RelL c n (cl.args.toList.map (opV h.G f) ++ ys) ((cl.args.map a.eval) ++ us).toList := by
    intro ys us hL
    refine ⟨by simp [hL.1, ← hargs.1], fun j x hj => ?_⟩
    rw [List.getElem?_append] at hj
    rw [Array.toList_append, List.getElem?_append]
    have hl : (cl.args.map a.eval).toList.length = (cl.args.toList.map (opV h.G f)).length := hargs.1
    rw [hl]
    split at hj
    · rename_i hlt; rw [if_pos hlt]; exact hargs.2 j x hj
    · rename_i hlt; rw [if_neg hlt]; exact hL.2 _ x hj
  split at he
  · rename_i g cs hfv
    rw [hfv] at hf
    generalize hv : a.eval fo = v at hf
    cases hf.inv_d with
    | fn _ _ vs hl hh =>
      have hrun : (execOp a.eval o).run P c.w = (callFunc g ((cl.args.map a.eval) ++ vs)).run P c.w := by
        simp [execOp, ho, resolve, hcl, hv, Deferred.ofValue, invoke]
      rw [hrun]
      refine callV_wp hok he hG hs.glob hH (app _ _ ⟨by simpa using hl, fun j x hj => ?_⟩) hK
      simp only [List.getElem?_map] at hj
      obtain ⟨d, hd, rfl⟩ := Option.map_eq_some_iff.1 hj
      have hlt := (List.getElem?_eq_some_iff.1 hd).1
      refine ⟨vs.getD j undef, ?_, .d _ _ (hh j d hd)⟩
      rw [Array.getElem?_toList, Array.getD_eq_getD_getElem?, Array.getElem?_eq_getElem (by omega)]; rfl
  · rename_i g cs hfv
    rw [hfv] at hf
    generalize hv : a.eval fo = v at hf
    cases hf with
    | fn _ _ vs hl hh =>
      have hrun : (execOp a.eval o).run P c.w = (callFunc g ((cl.args.map a.eval) ++ vs)).run P c.w := by
        simp [execOp, ho, resolve, hcl, hv, Deferred.ofValue, invoke]
      rw [hrun]
      refine callV_wp hok he hG hs.glob hH (app _ _ ⟨by simpa using hl, fun j x hj => ?_⟩) hK
      have hlt := (List.getElem?_eq_some_iff.1 hj).1
      refine ⟨vs.getD j undef, ?_, hh j x hj⟩
      rw [Array.getElem?_toList, Array.getD_eq_getD_getElem?, Array.getElem?_eq_getElem (by omega)]; rfl
  · cases he
end Go.Fw
