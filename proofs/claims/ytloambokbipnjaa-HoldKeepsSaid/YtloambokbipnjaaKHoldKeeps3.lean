/- HoldKeeps answers true whatever the hold and the acts are, and what was handed in reads as it did: the given statement holdKeeps. -/
import Derived.ChangeSame
import Derived.ChangeArms
import Derived.ChangeSlices
import Derived.Below
import Derived.Deep.Slices
import Derived.WalkKit
import Derived.ProofKit
import Derived.OpenShut
import Derived.ShutString
import Derived.ChangeOld
import Derived.Carry
import Derived.SizedLaws
import Derived.Test.YtloambokbipnjaaProg
import Derived.KernelRfl
import Derived.Laws.Externs
import Derived.Test.YtloambokbipnjaaRows
import Derived.Test.YtloambokbipnjaaKHoldKeeps2
section
/- A state is cut down to a shape. By this session. -/
set_option linter.unusedVariables false
set_option linter.unusedSimpArgs false
namespace Go.Fw
variable {P : Program} {α : Type} {r : α}

theorem ren_d {σ : Nat → Nat} {x : V} {d : D} (h : renV σ x = .d d) : x = .d d := by
  cases x <;> simp only [renV] at h <;> first | exact h | cases h
theorem rens_allD {σ : Nat → Nat} : ∀ {xs : List V} {ds : List D}, renVs σ xs = ds.map .d → xs = ds.map .d
  | [], ds, h => by
    cases ds with
    | nil => rfl
    | cons d ds => simp [renVs] at h
  | x :: xs, ds, h => by
    cases ds with
    | nil => simp [renVs] at h
    | cons d ds =>
      simp only [renVs, List.map_cons, List.cons.injEq] at h ⊢
      exact ⟨ren_d h.1, rens_allD h.2⟩
theorem rens_map {σ : Nat → Nat} : ∀ (ds : List D), renVs σ (ds.map .d) = ds.map .d
  | [] => rfl
  | d :: ds => by simp only [List.map_cons, renVs, renV, rens_map ds]
theorem mkFn_ren {σ : Nat → Nat} {f : FuncId} {vs xs : List V} (h : vs = renVs σ xs) (hn : (allD vs).isSome = false) : V.fn f vs = renV σ (mkFn f xs) := by
  unfold mkFn
  split
  · rename_i ds hd
    have := allD_spec _ _ hd
    rw [this, rens_map] at h
    rw [h, allD_map] at hn
    cases hn
  · simp only [renV, h]
theorem mkAg_ren {σ : Nat → Nat} {vs xs : List V} (h : vs = renVs σ xs) (hn : (allD vs).isSome = false) : V.ag vs = renV σ (mkAg xs) := by
  unfold mkAg
  split
  · rename_i ds hd
    have := allD_spec _ _ hd
    rw [this, rens_map] at h
    rw [h, allD_map] at hn
    cases hn
  · simp only [renV, h]
theorem mkFn_told {σ : Nat → Nat} {f : FuncId} {ds : List D} {xs : List V} (h : ds.map V.d = renVs σ xs) : V.d (.fn f ds) = renV σ (mkFn f xs) := by
  have := rens_allD h.symm
  subst this
  simp only [mkFn, allD_map, renV]
theorem mkAg_told {σ : Nat → Nat} {ds : List D} {xs : List V} (h : ds.map V.d = renVs σ xs) : V.d (.ag ds) = renV σ (mkAg xs) := by
  have := rens_allD h.symm
  subst this
  simp only [mkAg, allD_map, renV]

section
variable {l : List Nat} {nl : List Bool}
mutual
theorem Sh.get_put : ∀ (s : Sh) (v : V) (ds : List D), s.get l nl v = some ds → ds.length = s.tys.length ∧ ∀ rest, v = renV (sig l) (s.put nl (ds ++ rest)).1 ∧ (s.put nl (ds ++ rest)).2 = rest
  | .x T, v, ds, h => by
    simp only [Sh.get] at h
    split at h
    · injection h with h; subst h
      exact ⟨rfl, fun rest => ⟨rfl, rfl⟩⟩
    · cases h
  | .c t, v, ds, h => by
    simp only [Sh.get] at h
    split at h
    · obtain ⟨h1, h2⟩ := cond_some h
      injection h2 with h2; subst h2
      exact ⟨rfl, fun rest => ⟨by rw [constIs_eq h1]; rfl, rfl⟩⟩
    · cases h
  | .pt j o, v, ds, h => by
    simp only [Sh.get] at h
    split at h
    · obtain ⟨h1, h2⟩ := cond_some h
      injection h2 with h2; subst h2
      simp only [Bool.and_eq_true, beq_iff_eq] at h1
      exact ⟨rfl, fun rest => ⟨by simp only [Sh.put, renV, h1.1, h1.2], rfl⟩⟩
    · cases h
  | .own j w, v, ds, h => by
    simp only [Sh.get] at h
    split at h
    · obtain ⟨h1, h2⟩ := cond_some h
      injection h2 with h2; subst h2
      simp only [Bool.and_eq_true, beq_iff_eq, Bool.not_eq_true'] at h1
      exact ⟨rfl, fun rest => ⟨by simp only [Sh.put, h1.1, cond_false, renV, h1.2.1, h1.2.2], rfl⟩⟩
    · obtain ⟨h1, h2⟩ := cond_some h
      injection h2 with h2; subst h2
      exact ⟨rfl, fun rest => ⟨by simp only [Sh.put, h1, cond_true, renV], rfl⟩⟩
    · cases h
  | .fn f cs, v, ds, h => by
    simp only [Sh.get] at h
    split at h
    · obtain ⟨h1, h2⟩ := cond_some h
      simp only [Bool.and_eq_true, beq_iff_eq, Bool.not_eq_true'] at h1
      obtain ⟨h3, h4⟩ := Shs.get_put cs _ ds h2
      refine ⟨h3, fun rest => ⟨?_, (h4 rest).2⟩⟩
      rw [← h1.1]
      exact mkFn_ren (h4 rest).1 h1.2
    · obtain ⟨h1, h2⟩ := cond_some h
      obtain ⟨h3, h4⟩ := Shs.get_put cs _ ds h2
      refine ⟨h3, fun rest => ⟨?_, (h4 rest).2⟩⟩
      rw [show f = _ by simpa using h1]
      exact mkFn_told (h4 rest).1
    · cases h
  | .ag cs, v, ds, h => by
    simp only [Sh.get] at h
    split at h
    · obtain ⟨h1, h2⟩ := cond_some h
      simp only [Bool.not_eq_true'] at h1
      obtain ⟨h3, h4⟩ := Shs.get_put cs _ ds h2
      exact ⟨h3, fun rest => ⟨mkAg_ren (h4 rest).1 h1, (h4 rest).2⟩⟩
    · obtain ⟨h3, h4⟩ := Shs.get_put cs _ ds h
      exact ⟨h3, fun rest => ⟨mkAg_told (h4 rest).1, (h4 rest).2⟩⟩
    · cases h
theorem Shs.get_put : ∀ (s : Shs) (vs : List V) (ds : List D), s.get l nl vs = some ds → ds.length = s.tys.length ∧ ∀ rest, vs = renVs (sig l) (s.put nl (ds ++ rest)).1 ∧ (s.put nl (ds ++ rest)).2 = rest
  | .nil, vs, ds, h => by
    simp only [Shs.get] at h
    split at h
    · injection h with h; subst h
      exact ⟨rfl, fun rest => ⟨rfl, rfl⟩⟩
    · cases h
  | .cons s r, vs, ds, h => by
    simp only [Shs.get] at h
    split at h
    · rename_i v vs
      split at h
      · rename_i d1 h1
        split at h
        · rename_i d2 h2
          injection h with h; subst h
          obtain ⟨g1, g2⟩ := Sh.get_put s v d1 h1
          obtain ⟨g3, g4⟩ := Shs.get_put r vs d2 h2
          refine ⟨by simp only [Shs.tys, List.length_append, g1, g3], fun rest => ?_⟩
          have e1 := g2 (d2 ++ rest)
          have e2 := g4 rest
          rw [List.append_assoc]
          simp only [Shs.put, renVs]
          rw [e1.2]
          exact ⟨by rw [← e1.1, ← e2.1], e2.2⟩
        · cases h
      · cases h
    · cases h
end
theorem getS_put {f : Slots} : ∀ (sl : List (Nat × Sh)) (ds : List D), getS l nl f sl = some ds → ds.length = (slTys sl).length ∧ ∀ rest, slotsW f (sig l) (putS nl sl (ds ++ rest)).1
  | [], ds, h => by
    simp only [getS, Option.some.injEq] at h
    subst h
    exact ⟨rfl, fun rest => trivial⟩
  | (k, s) :: r, ds, h => by
    simp only [getS] at h
    split at h
    · rename_i d1 h1
      split at h
      · rename_i d2 h2
        injection h with h; subst h
        obtain ⟨g1, g2⟩ := s.get_put _ d1 h1
        obtain ⟨g3, g4⟩ := getS_put r d2 h2
        refine ⟨by simp only [slTys, List.length_append, g1, g3], fun rest => ?_⟩
        have e1 := g2 (d2 ++ rest)
        rw [List.append_assoc]
        simp only [putS]
        rw [e1.2]
        exact ⟨e1.1, g4 rest⟩
      · cases h
    · cases h
theorem BSh.get_put {n : Bool} {σ : Nat → Nat} : ∀ (b : BSh) (x : Blk) (ds : List D), b.get l nl n x = some ds → (σ = sig l) → ds.length = b.tys.length ∧ ∀ rest, ((b.put nl (ds ++ rest)).1 ≠ .dead → x = renB σ (b.put nl (ds ++ rest)).1) ∧ (b.put nl (ds ++ rest)).2 = rest
  | .box cs, x, ds, h, hσ => by
    subst hσ
    simp only [BSh.get] at h
    split at h
    · cases n
      · simp only [cond_false] at h
        obtain ⟨g1, g2⟩ := cs.get_put _ ds h
        exact ⟨g1, fun rest => ⟨fun _ => by simp only [BSh.put, renB]; rw [← (g2 rest).1], (g2 rest).2⟩⟩
      · cases h
    · cases h
  | .arr T, x, ds, h, hσ => by
    simp only [BSh.get] at h
    split at h
    · cases n
      · simp only [cond_false, Option.some.injEq] at h
        subst h
        exact ⟨rfl, fun rest => ⟨fun _ => rfl, rfl⟩⟩
      · cases h
    · cases h
  | .arrN T, x, ds, h, hσ => by
    simp only [BSh.get] at h
    cases n
    · simp only [cond_false] at h
      split at h
      · rename_i w xs
        obtain ⟨h1, h⟩ := cond_none h
        injection h with h; subst h
        refine ⟨rfl, fun rest => ⟨fun hd => ?_, rfl⟩⟩
        simp only [BSh.put, List.cons_append, nilD, h1, cond_false, arrOf, renB]
      · cases h
    · simp only [cond_true, Option.some.injEq] at h
      subst h
      exact ⟨rfl, fun rest => ⟨fun hd => by simp [BSh.put, nilD, Ls.nil] at hd, rfl⟩⟩
  | .dead, x, ds, h, hσ => by
    simp only [BSh.get] at h
    cases n
    · simp only [cond_false, Option.some.injEq] at h
      subst h
      exact ⟨rfl, fun rest => ⟨fun hd => by simp [BSh.put] at hd, rfl⟩⟩
    · cases h
theorem getB_put {hp : Heap} : ∀ (bl : List BSh) (j : Nat) (ds : List D), getB l nl hp j bl = some ds → ds.length = (blTys bl).length ∧ ∀ rest, heapW hp (sig l) (putB nl j bl (ds ++ rest))
  | [], j, ds, h => by
    simp only [getB, Option.some.injEq] at h
    subst h
    exact ⟨rfl, fun rest => trivial⟩
  | b :: r, j, ds, h => by
    simp only [getB] at h
    split at h
    · rename_i d1 h1
      split at h
      · rename_i d2 h2
        injection h with h; subst h
        obtain ⟨g1, g2⟩ := b.get_put _ d1 h1 rfl
        obtain ⟨g3, g4⟩ := getB_put r (j + 1) d2 h2
        refine ⟨by simp only [blTys, List.length_append, g1, g3], fun rest => ?_⟩
        have e1 := g2 (d2 ++ rest)
        rw [List.append_assoc]
        simp only [putB]
        rw [e1.2]
        exact ⟨e1.1, g4 rest⟩
      · cases h
    · cases h
end

/-! ### cutting down -/
def frzSl : List (Nat × Sh) → St → (St → Option α) → Option α
  | [], st, K => K st
  | (k, .x T) :: r, st, K => frzK st.h (get st.f k) fun d hp => frzSl r ⟨(k, .d (coeT T d)) :: st.f, st.n, hp⟩ K
  | (_, _) :: r, st, K => frzSl r st K
def sameBs : List Bool → List Bool → Bool
  | [], [] => true
  | a :: l, b :: m => (bif a then b else !b) && sameBs l m
  | _, _ => false
theorem sameBs_eq : ∀ {a b : List Bool}, sameBs a b = true → a = b
  | [], [], _ => rfl
  | a :: l, b :: m, h => by
    simp only [sameBs, Bool.and_eq_true] at h
    rw [sameBs_eq h.2]
    cases a <;> cases b <;> first | rfl | cases h.1
  | [], _ :: _, h => by cases h
  | _ :: _, [], h => by cases h
def cutK (n0 : Nat) (s : SSh) (st : St) (K : List D → Option α) : Option α :=
  match getS (lOf n0 (bndS st s) s.bl.length) (nOf (bndS st s) s.bl.length) st.f s.sl with
  | some ds => match getB (lOf n0 (bndS st s) s.bl.length) (nOf (bndS st s) s.bl.length) st.h 0 s.bl with
    | some es => bif okW (s.st (ds ++ es)) && (okSig n0 s.bl.length (lOf n0 (bndS st s) s.bl.length) && sameBs (nbs s.bl es) (nOf (bndS st s) s.bl.length)) then K (ds ++ es) else none
    | none => none
  | none => none
def absK (n0 : Nat) (s : SSh) (st : St) (K : List D → Option α) : Option α := frzSl s.sl st fun st => cutK n0 s st K

/-- one state is another one's, with less known -/
def Less (n0 : Nat) (st st' : St) : Prop := n0 ≤ st.n → n0 ≤ st'.n ∧ ∀ (G : Nat → Option (List D)) (nt : Nat) (c : Cf) (a : Act), SR G nt c st a → ∃ c', Ext c n0 c' ∧ c'.w = c.w ∧ SR G nt c' st' a
theorem Less.refl (n0 : Nat) (st : St) : Less n0 st st := fun h => ⟨h, fun G nt c a hr => ⟨c, .refl c n0, rfl, hr⟩⟩
theorem Less.trans {n0 : Nat} {a b c : St} (h : Less n0 a b) (k : Less n0 b c) : Less n0 a c := fun hn => by
  obtain ⟨h1, h2⟩ := h hn
  obtain ⟨k1, k2⟩ := k h1
  refine ⟨k1, fun G nt cf act hr => ?_⟩
  obtain ⟨c1, e1, w1, r1⟩ := h2 G nt cf act hr
  obtain ⟨c2, e2, w2, r2⟩ := k2 G nt c1 act r1
  exact ⟨c2, e1.trans e2 (Nat.le_refl _), w2.trans w1, r2⟩
theorem frz_less {n0 : Nat} {st : St} {k : Nat} {T : Ty} {d : D} {hp : Heap} (h : frz st.h (get st.f k) = some (d, hp)) : Less n0 st ⟨(k, .d (coeT T d)) :: st.f, st.n, hp⟩ := by
  intro hn
  refine ⟨hn, fun G nt c a hr => ?_⟩
  obtain ⟨c', hF, hd⟩ := frz_sound _ c st.h hp d _ h hr.h (hr.s.get k)
  refine ⟨c', hF.ext.weaken hn, hF.w, (hF.ext.G).trans hr.g, ⟨(hr.s.mono hF.ext (Nat.le_refl _)).glob, fun t => ?_⟩, hF.heap, hr.size, hr.defers⟩
  rw [get_cons]
  by_cases ht : k = t
  · subst ht; rw [if_pos rfl]; exact .d _ _ (coeT_rel hd)
  · rw [if_neg ht]; exact (hr.s.get t).mono hF.ext (Nat.le_refl _)
theorem frzSl_sound {n0 : Nat} : ∀ {sl : List (Nat × Sh)} {st : St} {K : St → Option α}, frzSl sl st K = some r → ∃ st', Less n0 st st' ∧ K st' = some r
  | [], st, K, h => ⟨st, .refl n0 st, h⟩
  | (k, s) :: r', st, K, h => by
    cases s with
    | x T =>
      simp only [frzSl] at h
      obtain ⟨d, hp, h1, h2⟩ := frzK_sound h
      obtain ⟨st', h3, h4⟩ := frzSl_sound h2
      exact ⟨st', (frz_less h1).trans h3, h4⟩
    | _ => exact frzSl_sound (sl := r') h
theorem Weak.less {n0 : Nat} {l : List Nat} {st st' : St} (hw : Weak n0 l st st') : Less n0 st st' := by
  intro hn
  have hsg := hw.sg
  simp only [okSig, Bool.and_eq_true] at hsg
  refine ⟨Nat.le_of_ble_eq_true hsg.1.1, fun G nt c a hr => ?_⟩
  obtain ⟨c', h1, h2, h3, h4⟩ := hw.use hr
  exact ⟨c', h1, h2, h4⟩
theorem cutK_sound {n0 : Nat} {s : SSh} {st : St} {K : List D → Option α} (h : cutK n0 s st K = some r) : ∃ ds, Less n0 st (s.st ds) ∧ K ds = some r := by
  unfold cutK at h
  split at h
  · rename_i ds hs
    split at h
    · rename_i es hb
      obtain ⟨hc, h⟩ := cond_some h
      simp only [Bool.and_eq_true] at hc
      obtain ⟨h1, h2, h3⟩ := hc
      have h3 := sameBs_eq h3
      refine ⟨ds ++ es, Weak.less (l := lOf n0 (bndS st s) s.bl.length) ⟨?_, ?_, h1, h2⟩, h⟩
      · obtain ⟨g1, g2⟩ := getS_put s.sl ds hs
        have := g2 es
        simp only [SSh.st, ← g1, List.drop_left, h3]
        exact this
      · obtain ⟨g1, _⟩ := getS_put s.sl ds hs
        obtain ⟨g3, g4⟩ := getB_put s.bl 0 es hb
        have := g4 []
        rw [List.append_nil] at this
        simp only [SSh.st, ← g1, List.drop_left, h3]
        exact this
    · cases h
  · cases h
theorem absK_sound {n0 : Nat} {s : SSh} {st : St} {K : List D → Option α} (h : absK n0 s st K = some r) : ∃ ds, Less n0 st (s.st ds) ∧ K ds = some r := by
  unfold absK at h
  obtain ⟨st', h1, h2⟩ := frzSl_sound (n0 := n0) h
  obtain ⟨ds, h3, h4⟩ := cutK_sound h2
  exact ⟨ds, h1.trans h3, h4⟩
end Go.Fw
end
section
/- Places and functions, told by shapes. By this session. -/
set_option linter.unusedVariables false
set_option linter.unusedSimpArgs false
namespace Go.Fw
variable {P : Program} {α : Type} {r : α}

/-! ### what comes of a place -/
abbrev PEnds := List (X × SSh)
@[reducible] def OutV : PEnds → Type
  | [] => Empty
  | o :: os => match os with
    | [] => Vals o.2.tys
    | _ :: _ => Vals o.2.tys ⊕ OutV os
/-- a list that may be nothing is looked into -/
def split1 : (t : Ty) → Bool → t.den → (t.den → Option α) → Option α
  | .l e, true => fun (x : List e.den) K => match x with
    | [] => K ([] : List e.den)
    | a :: l => K (a :: l : List e.den)
  | _, _ => fun x K => K x
def splitV : (ts : List Ty) → List Bool → Vals ts → (Vals ts → Option α) → Option α
  | [], _, v, K => K v
  | [t], ns, v, K => split1 t (ns.getD 0 false) v K
  | t :: t' :: ts, ns, v, K => split1 t (ns.getD 0 false) v.1 fun x => splitV (t' :: ts) (ns.drop 1) v.2 fun y => K (x, y)
theorem split1_is : ∀ {t : Ty} {n : Bool} {v : t.den} {K : t.den → Option α}, split1 t n v K = K v
  | .l e, true, v, K => by
    simp only [split1]
    cases (v : List e.den) <;> rfl
  | .l e, false, v, K => rfl
  | .b, n, v, K => by cases n <;> rfl
  | .s, n, v, K => by cases n <;> rfl
  | .u, n, v, K => by cases n <;> rfl
  | .i _, n, v, K => by cases n <;> rfl
  | .p _ _, n, v, K => by cases n <;> rfl
  | .g _, n, v, K => by cases n <;> rfl
theorem splitV_is : ∀ {ts : List Ty} {ns : List Bool} {v : Vals ts} {K : Vals ts → Option α}, splitV ts ns v K = K v
  | [], _, v, K => rfl
  | [t], ns, v, K => split1_is
  | t :: t' :: ts, ns, v, K => by
    show split1 t _ v.1 _ = _
    rw [split1_is]
    exact splitV_is (ts := t' :: ts)
def nilHoles (s : SSh) : List Bool := (slTys s.sl).map (fun _ => false) ++ s.bl.flatMap fun b => match b with
  | .arrN _ => [true]
  | b => b.tys.map fun _ => false
def outGo : (os : PEnds) → OutV os → (X → St → Option α) → Option α
  | [], r, K => r.elim
  | [o], v, K => splitV o.2.tys (nilHoles o.2) v fun v => K o.1 (o.2.st (elts o.2.tys v))
  | o :: o' :: os, v, K => match v with
    | .inl v => splitV o.2.tys (nilHoles o.2) v fun v => K o.1 (o.2.st (elts o.2.tys v))
    | .inr v => outGo (o' :: os) v K
/-- where it leads, and to which state -/
def outIs : (os : PEnds) → OutV os → X × St
  | [], r => r.elim
  | [o], v => (o.1, o.2.st (elts o.2.tys v))
  | o :: o' :: os, v => match v with
    | .inl v => (o.1, o.2.st (elts o.2.tys v))
    | .inr v => outIs (o' :: os) v
theorem outGo_is : ∀ {os : PEnds} {v : OutV os} {K : X → St → Option α}, outGo os v K = K (outIs os v).1 (outIs os v).2
  | [], v, K => v.elim
  | [o], v, K => splitV_is (ts := o.2.tys) (K := fun v => K o.1 (o.2.st (elts o.2.tys v)))
  | o :: o' :: os, v, K => by
    cases v with
    | inl v => exact splitV_is (ts := o.2.tys) (K := fun v => K o.1 (o.2.st (elts o.2.tys v)))
    | inr v => exact outGo_is (os := o' :: os) (v := v)
def xIs : X → X → Bool
  | .n, .n => true
  | .ret, .ret => true
  | .exit a, .exit b => a == b
  | _, _ => false
theorem xIs_eq {a b : X} (h : xIs a b = true) : a = b := by
  cases a <;> cases b <;> simp only [xIs] at h <;> first | rfl | (cases h; done) | skip
  rename_i i j
  rw [show i = j from by simpa using h]
def outGet (n0 : Nat) : (os : PEnds) → X → St → (OutV os → Option α) → Option α
  | [], _, _, _ => none
  | [o], x, st, K => bif xIs x o.1 then absK n0 o.2 st fun ds => (match decAll o.2.tys ds with
    | some v => K v
    | none => none) else none
  | o :: o' :: os, x, st, K => bif xIs x o.1 then absK n0 o.2 st fun ds => (match decAll o.2.tys ds with
    | some v => K (.inl v)
    | none => none) else outGet n0 (o' :: os) x st fun v => K (.inr v)
theorem outGet_sound {n0 : Nat} : ∀ {os : PEnds} {x : X} {st : St} {K : OutV os → Option α}, outGet n0 os x st K = some r → ∃ v, x = (outIs os v).1 ∧ Less n0 st (outIs os v).2 ∧ K v = some r
  | [], x, st, K, h => by cases h
  | [o], x, st, K, h => by
    simp only [outGet] at h
    obtain ⟨h1, h2⟩ := cond_some h
    obtain ⟨ds, h3, h4⟩ := absK_sound h2
    split at h4
    · rename_i v hv
      refine ⟨v, xIs_eq h1, ?_, h4⟩
      show Less n0 st (o.2.st (elts o.2.tys v))
      rw [decAll_elts hv]; exact h3
    · cases h4
  | o :: o' :: os, x, st, K, h => by
    simp only [outGet] at h
    cases hx : xIs x o.1 <;> rw [hx] at h
    · obtain ⟨v, h1, h2, h3⟩ := outGet_sound (os := o' :: os) h
      exact ⟨.inr v, h1, h2, h3⟩
    · obtain ⟨ds, h3, h4⟩ := absK_sound h
      split at h4
      · rename_i v hv
        refine ⟨.inl v, xIs_eq hx, ?_, h4⟩
        show Less n0 st (o.2.st (elts o.2.tys v))
        rw [decAll_elts hv]; exact h3
      · cases h4

/-! ### places -/
structure NodeT where
  sh : SSh
  os : PEnds
  f : Vals sh.tys → Option (OutV os)
def NodeT.summ (T : NodeT) (n0 : Nat) : Summ := fun st _ K => absK n0 T.sh st fun ds => match decAll T.sh.tys ds with
  | some s => (T.f s).bind fun r => outGo T.os r K
  | none => none
section
variable {G : Nat → Option (List D)} {nt n0 : Nat}
theorem CodeN.less {code : Code} {st st1 : St} {q : X × St} (hw : Less n0 st st1) (hl : CodeN P G nt n0 code st1 q) : CodeN P G nt n0 code st q := by
  intro h0 c a Q hr hQ
  obtain ⟨hn, hu⟩ := hw h0
  obtain ⟨c', hx, hw', hr'⟩ := hu _ _ _ _ hr
  have := hl hn c' a Q hr' fun a2 c2 hx2 hn2 hr2 => hQ a2 c2 (hx.trans hx2 (Nat.le_refl _)) hn2 hr2
  rw [hw'] at this
  exact this
theorem CodeN.less_out {code : Code} {st st1 st2 : St} {x : X} (hl : CodeN P G nt n0 code st (x, st1)) (hw : Less n0 st1 st2) : CodeN P G nt n0 code st (x, st2) := by
  intro h0 c a Q hr hQ
  refine hl h0 c a Q hr fun a1 c1 hx1 hn1 hr1 => ?_
  obtain ⟨hn, hu⟩ := hw hn1
  obtain ⟨c', hx, hw', hr'⟩ := hu _ _ _ _ hr1
  have := hQ a1 c' (hx1.trans hx (Nat.le_refl _)) hn hr'
  rw [hw'] at this
  exact this
theorem node_told' {g : FuncId} {k : Nat} (T : NodeT) (h : ∀ s r, T.f s = some r → CodeN P G (ntOf P g) n0 (nodeOf P g k) (T.sh.st (elts T.sh.tys s)) (outIs T.os r)) : ToldOK P G n0 g k (.yes (T.summ n0)) := by
  refine told_yes fun st α K r hr => ?_
  unfold NodeT.summ at hr
  obtain ⟨ds, h1, hr⟩ := absK_sound hr
  split at hr
  · rename_i s hs
    obtain ⟨r', hf, hr⟩ := Option.bind_eq_some_iff.1 hr
    rw [outGo_is] at hr
    have := h s r' hf
    rw [decAll_elts hs] at this
    exact ⟨_, _, CodeN.less h1 this, hr⟩
  · cases hr
/-- a piece of code, from a shape on to its ends -/
def nodeK (P : Program) (H : HK) (L : Loops) (c : Code) (n0 : Nat) (sh : SSh) (os : PEnds) (s : Vals sh.tys) (K : OutV os → Option α) : Option α :=
  evK P H L c 0 (sh.st (elts sh.tys s)) fun x st => outGet n0 os x st K
/-- one round -/
def turnK (P : Program) (H : HK) (L : Loops) (c : Code) (n0 : Nat) (sh : SSh) (os : PEnds) (s : Vals sh.tys) (K : Vals sh.tys ⊕ OutV os → Option α) : Option α :=
  evK P H L c 0 (sh.st (elts sh.tys s)) fun x st => match x with
    | .n => absK n0 sh st fun ds => match decAll sh.tys ds with
      | some s' => K (.inl s')
      | none => none
    | x => outGet n0 os x st fun v => K (.inr v)
def turnEnd (sh : SSh) (os : PEnds) (y : Vals sh.tys ⊕ OutV os) : X × St := match y with
  | .inl s' => (.n, sh.st (elts sh.tys s'))
  | .inr v => outIs os v
theorem nodeK_sound {H : HK} (hok : HKOK P H) {L : Loops} {c : Code} {sh : SSh} {os : PEnds} (hc : okCode nt c = true) (hL : LoopsSem P H.G nt n0 L c 0) {s : Vals sh.tys} {y : OutV os} (h : nodeK P H L c n0 sh os s some = some y) :
    CodeN P H.G nt n0 c (sh.st (elts sh.tys s)) (outIs os y) := by
  unfold nodeK at h
  obtain ⟨x, st', h1, h2⟩ := evK_sound hok c 0 _ _ hc hL h
  obtain ⟨v, rfl, h3, h4⟩ := outGet_sound h2
  injection h4 with h4
  subst h4
  exact h1.less_out h3
theorem turnK_sound {H : HK} (hok : HKOK P H) {L : Loops} {c : Code} {sh : SSh} {os : PEnds} (hc : okCode nt c = true) (hL : LoopsSem P H.G nt n0 L c 0) {s : Vals sh.tys} {y : Vals sh.tys ⊕ OutV os} (h : turnK P H L c n0 sh os s some = some y) :
    CodeN P H.G nt n0 c (sh.st (elts sh.tys s)) (turnEnd sh os y) := by
  unfold turnK at h
  obtain ⟨x, st', h1, h2⟩ := evK_sound hok c 0 _ _ hc hL h
  cases x with
  | n =>
    obtain ⟨ds, h3, h4⟩ := absK_sound h2
    split at h4
    · rename_i s' hs
      injection h4 with h4
      subst h4
      rw [← decAll_elts hs] at h3
      exact h1.less_out h3
    · cases h4
  | ret =>
    obtain ⟨v, hv, h3, h4⟩ := outGet_sound h2
    injection h4 with h4
    subst h4
    have := h1.less_out h3
    rw [hv] at this
    exact this
  | exit j =>
    obtain ⟨v, hv, h3, h4⟩ := outGet_sound h2
    injection h4 with h4
    subst h4
    have := h1.less_out h3
    rw [hv] at this
    exact this
/-- an end that is none of a round's -/
def okEnds (os : PEnds) : Bool := os.all fun o => !xIs o.1 .n
theorem okEnds_is : ∀ {os : PEnds}, okEnds os = true → ∀ v : OutV os, (outIs os v).1 ≠ .n
  | [], _, v => v.elim
  | [o], h, v => by
    simp only [okEnds, List.all_cons, Bool.and_eq_true, Bool.not_eq_true'] at h
    intro e
    have : o.1 = .n := e
    rw [this] at h
    cases h.1
  | o :: o' :: os, h, v => by
    have h0 := h
    simp only [okEnds, List.all_cons, Bool.and_eq_true, Bool.not_eq_true'] at h
    cases v with
    | inl v =>
      intro e
      have : o.1 = .n := e
      rw [this] at h
      cases h.1
    | inr v => exact okEnds_is (os := o' :: os) (by simp only [okEnds, List.all_cons, Bool.and_eq_true, Bool.not_eq_true']; exact h.2) v
/-- a loop is told -/
theorem loop_told' {H : HK} (hok : HKOK P H) {L : Loops} {g : FuncId} {k : Nat} {body : Code} (hn : nodeOf P g k = .loop body) (hc : okCode (ntOf P g) body = true) (hL : LoopsSem P H.G (ntOf P g) n0 L body 0) (sh : SSh) (os : PEnds) (ho : okEnds os = true)
    (t : Vals sh.tys → Option (Vals sh.tys ⊕ OutV os)) (h : ∀ s, turnK P H L body n0 sh os s some = t s) : ToldOK P H.G n0 g k (.yes (NodeT.summ ⟨sh, os, rounds t⟩ n0)) := by
  refine node_told' _ fun s r hr => ?_
  obtain ⟨n, hn'⟩ := rounds_some.1 hr
  rw [hn]
  have key : ∀ s y, t s = some y → CodeN P H.G (ntOf P g) n0 body (sh.st (elts sh.tys s)) (turnEnd sh os y) := fun s y hy => turnK_sound hok hc hL (by rw [h]; exact hy)
  exact (loopN_turns (e := fun s => sh.st (elts sh.tys s)) (x := outIs os) (okEnds_is ho) (fun s s' hs => key s _ hs) (fun s r hs => key s _ hs) n s r hn').code
/-- another place is told -/
theorem place_told {H : HK} (hok : HKOK P H) {L : Loops} {g : FuncId} {k : Nat} {c : Code} (hn : nodeOf P g k = c) (hc : okCode (ntOf P g) c = true) (hL : LoopsSem P H.G (ntOf P g) n0 L c 0) (sh : SSh) (os : PEnds)
    (f : Vals sh.tys → Option (OutV os)) (h : ∀ s, nodeK P H L c n0 sh os s some = f s) : ToldOK P H.G n0 g k (.yes (NodeT.summ ⟨sh, os, f⟩ n0)) := by
  refine node_told' _ fun s r hr => ?_
  rw [hn]
  exact nodeK_sound hok hc hL (by rw [h]; exact hr)
end

/-! ### functions -/
/-- what a function hands back, part by part: its own, or not, and of which type -/
abbrev Back := List (Bool × Ty)
def Back.tys (m : Back) : List Ty := m.map (·.2)
def freshD (t : Ty) (xs : Ls) : D := .fr t.w xs
def encR1 : Bool × Ty → D → D
  | (true, .l t), .sl _ xs => .fr t.w xs
  | _, d => d
def encRs : Back → List D → List D
  | m :: ms, d :: ds => encR1 m d :: encRs ms ds
  | _, _ => []
def tupD : List D → D
  | [d] => d
  | ds => .tp ds
/-- of what it hands back, data -/
def encR (m : Back) (x : Vals m.tys) : D := tupD (encRs m (elts m.tys x))
/-- which ones are frozen: all but its own -/
def frzSel : Back → List V → Heap → (List V → Heap → Option α) → Option α
  | [], [], hp, K => K [] hp
  | (false, T) :: m, v :: vs, hp, K => frzK hp v fun d hp' => frzSel m vs hp' fun vs' hp'' => K (.d (coeT T d) :: vs') hp''
  | (true, _) :: m, v :: vs, hp, K => frzSel m vs hp fun vs' hp'' => K (v :: vs') hp''
  | _, _, _, _ => none
def decR1 : Bool × Ty → D → Option D
  | (true, .l t), .fr w xs => bif w == t.w then some (.sl t.w xs) else none
  | (false, _), d => some d
  | _, _ => none
def decRs : Back → List D → Option (List D)
  | [], [] => some []
  | m :: ms, d :: ds => match decR1 m d with
    | some e => match decRs ms ds with
      | some es => some (e :: es)
      | none => none
    | none => none
  | _, _ => none
def partsV : V → List V
  | .tp vs => vs
  | .d (.tp ds) => ds.map .d
  | v => [v]
def oneRes : Back → Bool
  | [_] => true
  | _ => false
def expR (m : Back) (v : V) (hp : Heap) (K : Vals m.tys → Option α) : Option α :=
  frzSel m (bif oneRes m then [v] else partsV v) hp fun vs hp' => outsK vs hp' fun ds _ => match decRs m ds with
    | some es => match decAll m.tys es with
      | some x => K x
      | none => none
    | none => none
/-- arguments -/
def argV (As : Shs) (x : Vals As.tys) : List V := (As.put [] (elts As.tys x)).1
def argD (As : Shs) (x : Vals As.tys) : List D := match allD (argV As x) with
  | some ds => ds
  | none => []
def fnK (P : Program) (H : HK) (L : Loops) (g : FuncId) (As : Shs) (m : Back) (x : Vals As.tys) (K : Vals m.tys → Option α) : Option α :=
  bodyK P H L g (argV As x) 0 [] fun v _ hp => expR m v hp K
def coeA : Shs → List D → List D
  | .cons s r, d :: ds => (match s with
    | .x T => coeT T d
    | _ => d) :: coeA r ds
  | _, ds => ds
def decArgs (As : Shs) (ds : List D) : Option (Vals As.tys) := match As.get [] [] ((coeA As ds).map .d) with
  | some hs => decAll As.tys hs
  | none => none
def fnRow (g : FuncId) (As : Shs) (m : Back) (F : Vals As.tys → Option (Vals m.tys)) : Row := ⟨g, Vals As.tys, Vals m.tys, decArgs As, F, encR m⟩

theorem coeA_rel {w : World} {I : Mem} : ∀ {As : Shs} {ds : List D} {f : Nat → Value}, (∀ (j : Nat) (d : D), ds[j]? = some d → RelD w I d (f j)) → ∀ (j : Nat) (d : D), (coeA As ds)[j]? = some d → RelD w I d (f j)
  | .nil, ds, f, h, j, d, hj => by simp only [coeA] at hj; exact h j d hj
  | .cons s r, [], f, h, j, d, hj => by simp [coeA] at hj
  | .cons s r, d0 :: ds, f, h, j, d, hj => by
    simp only [coeA] at hj
    cases j with
    | zero =>
      simp only [List.getElem?_cons_zero, Option.some.injEq] at hj
      subst hj
      split
      · exact coeT_rel (h 0 d0 rfl)
      · exact h 0 d0 rfl
    | succ j => exact coeA_rel (f := fun j => f (j + 1)) (fun j d hj => h (j + 1) d (by simpa using hj)) j d (by simpa using hj)
theorem coeA_len : ∀ {As : Shs} {ds : List D}, (coeA As ds).length = ds.length
  | .nil, ds => rfl
  | .cons s r, [] => rfl
  | .cons s r, d0 :: ds => by simp only [coeA, List.length_cons, coeA_len]
theorem decArgs_argD {As : Shs} {ds : List D} {x : Vals As.tys} (h : decArgs As ds = some x) : argD As x = coeA As ds := by
  unfold decArgs at h
  split at h
  · rename_i hs hg
    have := decAll_elts h
    obtain ⟨_, h2⟩ := As.get_put _ _ hg
    have h3 := (h2 []).1
    rw [List.append_nil] at h3
    have h4 := rens_allD h3.symm
    unfold argD argV
    rw [this, h4, allD_map]
  · cases h
theorem PCall.coe {G : Nat → Option (List D)} {g : FuncId} {ds ds' : List D} {q : D} (h : PCall P G g ds' q) (hl : ds'.length = ds.length) (hr : ∀ (w : World) (I : Mem) (f : Nat → Value), (∀ (j : Nat) (d : D), ds[j]? = some d → RelD w I d (f j)) → ∀ (j : Nat) (d : D), ds'[j]? = some d → RelD w I d (f j)) : PCall P G g ds q := by
  intro w I K vs hg hI hK hd hsz hargs
  exact h w I K vs hg hI hK hd (by rw [hl]; exact hsz) (hr w I _ hargs)

/-! what it hands back is so -/
theorem frzSel_sound {n : Nat} : ∀ {m : Back} {vs : List V} {hp : Heap} {K : List V → Heap → Option α}, frzSel m vs hp K = some r → ∃ vs' hp', K vs' hp' = some r ∧ vs'.length = vs.length ∧ ∀ (c : Cf) (us : List Value), RelH c n hp → RelL c n vs us → ∃ c', Frz c n hp hp' c' ∧ RelL c' n vs' us
  | [], [], hp, K, h => ⟨[], hp, h, rfl, fun c us hH hL => ⟨c, .refl hH, hL⟩⟩
  | (b, T) :: m, v :: vs, hp, K, h => by
    cases b with
    | false =>
      simp only [frzSel] at h
      obtain ⟨d, hp', h1, h2⟩ := frzK_sound h
      obtain ⟨vs', hp'', h3, h4, h5⟩ := frzSel_sound (n := n) h2
      refine ⟨_, hp'', h3, by simp [h4], fun c us hH hL => ?_⟩
      cases us with
      | nil => have := hL.1; simp at this
      | cons u us =>
        obtain ⟨u', hu, hru⟩ := hL.2 0 v rfl
        simp only [List.getElem?_cons_zero, Option.some.injEq] at hu
        subst hu
        obtain ⟨c1, hF1, hd⟩ := frz_sound v c hp hp' d u h1 hH hru
        obtain ⟨c2, hF2, hL2⟩ := h5 c1 us hF1.heap ⟨by simpa using hL.1, fun j x hj => by
          obtain ⟨y, hy, hry⟩ := hL.2 (j + 1) x (by simpa using hj)
          exact ⟨y, by simpa using hy, hry.mono hF1.ext (Nat.le_refl n)⟩⟩
        refine ⟨c2, hF1.trans hF2, by simpa using hL2.1, fun j x hj => ?_⟩
        cases j with
        | zero =>
          simp only [List.getElem?_cons_zero, Option.some.injEq] at hj
          subst hj
          exact ⟨u, rfl, .d _ _ ((coeT_rel hd).mono hF2.ext.kept)⟩
        | succ j => simpa using hL2.2 j x (by simpa using hj)
    | true =>
      simp only [frzSel] at h
      obtain ⟨vs', hp'', h3, h4, h5⟩ := frzSel_sound (n := n) h
      refine ⟨_, hp'', h3, by simp [h4], fun c us hH hL => ?_⟩
      cases us with
      | nil => have := hL.1; simp at this
      | cons u us =>
        obtain ⟨u', hu, hru⟩ := hL.2 0 v rfl
        simp only [List.getElem?_cons_zero, Option.some.injEq] at hu
        subst hu
        obtain ⟨c2, hF2, hL2⟩ := h5 c us hH ⟨by simpa using hL.1, fun j x hj => by
          obtain ⟨y, hy, hry⟩ := hL.2 (j + 1) x (by simpa using hj)
          exact ⟨y, by simpa using hy, hry⟩⟩
        refine ⟨c2, hF2, by simpa using hL2.1, fun j x hj => ?_⟩
        cases j with
        | zero =>
          simp only [List.getElem?_cons_zero, Option.some.injEq] at hj
          subst hj
          exact ⟨u, rfl, hru.mono hF2.ext (Nat.le_refl n)⟩
        | succ j => simpa using hL2.2 j x (by simpa using hj)
  | [], _ :: _, hp, K, h => by simp [frzSel] at h
  | (false, _) :: _, [], hp, K, h => by simp [frzSel] at h
  | (true, _) :: _, [], hp, K, h => by simp [frzSel] at h
theorem decRs_enc : ∀ {m : Back} {ds es : List D}, decRs m ds = some es → encRs m es = ds
  | [], [], es, h => by simp only [decRs, Option.some.injEq] at h; subst h; rfl
  | a :: m, d :: ds, es, h => by
    simp only [decRs] at h
    split at h
    · rename_i e h1
      split at h
      · rename_i es' h2
        injection h with h
        subst h
        simp only [encRs, decRs_enc h2]
        congr 1
        unfold decR1 at h1
        split at h1
        · rename_i t w xs
          obtain ⟨h3, h4⟩ := cond_some h1
          injection h4 with h4
          subst h4
          simp only [encR1]
          rw [show w = t.w by simpa using h3]
        · injection h1 with h1; subst h1; rfl
        · cases h1
      · cases h
    · cases h
  | [], _ :: _, _, h => by cases h
  | _ :: _, [], _, h => by cases h
theorem partsV_rel {c : Cf} {n : Nat} {v : V} {u : Value} (h : RelV c n v u) (hv : (∃ vs, v = .tp vs) ∨ ∃ ds, v = .d (.tp ds)) : ∃ us : Array Value, u = .tuple us ∧ RelL c n (partsV v) us.toList := by
  rcases hv with ⟨vs, rfl⟩ | ⟨ds, rfl⟩
  · cases h with
    | tp _ us hl hh =>
      refine ⟨us, rfl, by simpa [partsV] using hl, fun j x hj => ?_⟩
      have hlt := (List.getElem?_eq_some_iff.1 hj).1
      refine ⟨us.getD j undef, ?_, hh j x hj⟩
      simp only [partsV] at hlt
      rw [Array.getElem?_toList, Array.getD_eq_getD_getElem?, Array.getElem?_eq_getElem (by omega)]; rfl
  · have := h.inv_d
    cases this with
    | tp _ us hl hh =>
      refine ⟨us, rfl, by simpa [partsV] using hl, fun j x hj => ?_⟩
      simp only [partsV, List.getElem?_map] at hj
      obtain ⟨d, hd, rfl⟩ := Option.map_eq_some_iff.1 hj
      have hlt := (List.getElem?_eq_some_iff.1 hd).1
      refine ⟨us.getD j undef, ?_, .d _ _ (hh j d hd)⟩
      rw [Array.getElem?_toList, Array.getD_eq_getD_getElem?, Array.getElem?_eq_getElem (by omega)]; rfl
theorem parts_not {v : V} (h1 : ∀ vs, v ≠ .tp vs) (h2 : ∀ ds, v ≠ .d (.tp ds)) : partsV v = [v] := by
  unfold partsV
  split
  · exact absurd rfl (h1 _)
  · exact absurd rfl (h2 _)
  · rfl
theorem frzSel_len : ∀ {m : Back} {vs : List V} {hp : Heap} {K : List V → Heap → Option α}, frzSel m vs hp K = some r → vs.length = m.length
  | [], [], hp, K, h => rfl
  | (false, T) :: m, v :: vs, hp, K, h => by
    simp only [frzSel] at h
    obtain ⟨d, hp', h1, h2⟩ := frzK_sound h
    simp only [List.length_cons, frzSel_len h2]
  | (true, T) :: m, v :: vs, hp, K, h => by
    simp only [frzSel] at h
    simp only [List.length_cons, frzSel_len h]
  | [], _ :: _, hp, K, h => by simp [frzSel] at h
  | (false, _) :: _, [], hp, K, h => by simp [frzSel] at h
  | (true, _) :: _, [], hp, K, h => by simp [frzSel] at h
theorem expR_sound {n : Nat} {m : Back} {v : V} {hp : Heap} {x : Vals m.tys} (h : expR m v hp some = some x) : ∃ v2 hp2, expD hp2 v2 = some (encR m x) ∧ ∀ (c : Cf) (u : Value), RelH c n hp → RelV c n v u → ∃ c', Frz c n hp hp2 c' ∧ RelV c' n v2 u := by
  unfold expR at h
  have hlen := frzSel_len h
  obtain ⟨vs', hp2, h1, h2, h3⟩ := frzSel_sound (n := n) h
  obtain ⟨ds, hp3, h4, h5⟩ := outsK_sound h1
  have henc : encR m x = tupD ds := by
    split at h5
    · rename_i es he
      split at h5
      · rename_i y hy
        injection h5 with h5
        subst h5
        unfold encR
        rw [decAll_elts hy, decRs_enc he]
      · cases h5
    · cases h5
  cases hm : oneRes m
  · -- several
    rw [hm] at hlen h2 h3
    simp only [cond_false] at hlen h2 h3
    have hml : m.length ≠ 1 := by
      intro e
      match m, e with
      | [_], _ => cases hm
    have hv : (∃ vs, v = .tp vs) ∨ ∃ ds, v = .d (.tp ds) := by
      apply Classical.byContradiction
      intro hn
      have h1 : ∀ vs, v ≠ .tp vs := fun vs e => hn (.inl ⟨vs, e⟩)
      have h2 : ∀ ds, v ≠ .d (.tp ds) := fun ds e => hn (.inr ⟨ds, e⟩)
      rw [parts_not h1 h2] at hlen
      exact hml hlen.symm
    have hdl : ds.length = vs'.length := expTops_len h4
    refine ⟨.tp vs', hp2, ?_, fun c u hH hr => ?_⟩
    · simp only [expD, h4, Option.map_some, henc]
      have : tupD ds = .tp ds := by
        unfold tupD
        split
        · rename_i d
          have : vs'.length = 1 := hdl.symm
          omega
        · rfl
      rw [this]
    · obtain ⟨us, rfl, hL⟩ := partsV_rel hr hv
      obtain ⟨c', hF, hL'⟩ := h3 c us.toList hH hL
      refine ⟨c', hF, .tp _ _ (by simpa using hL'.1) fun j x hj => ?_⟩
      obtain ⟨w, hw, hrw⟩ := hL'.2 j x hj
      rw [Array.getElem?_toList] at hw
      rw [Array.getD_eq_getD_getElem?, hw]
      exact hrw
  · -- one
    rw [hm] at hlen h2 h3
    simp only [cond_true, List.length_cons, List.length_nil] at hlen h2 h3
    match vs', h2 with
    | [v2], _ =>
    refine ⟨v2, hp2, ?_, fun c u hH hr => ?_⟩
    · simp only [expTops] at h4
      split at h4
      · rename_i d hp' he
        simp only [Option.some.injEq, Prod.mk.injEq] at h4
        obtain ⟨rfl, rfl⟩ := h4
        rw [henc]
        show expD hp2 v2 = some d
        unfold expD
        split
        · rename_i vs
          simp [expTop, frz] at he
        · rw [he]; rfl
      · cases h4
    · obtain ⟨c', hF, hL'⟩ := h3 c [u] hH ⟨rfl, fun j x hj => by
        cases j with
        | zero => simp only [List.getElem?_cons_zero, Option.some.injEq] at hj; subst hj; exact ⟨u, rfl, hr⟩
        | succ j => simp at hj⟩
      obtain ⟨w, hw, hrw⟩ := hL'.2 0 v2 rfl
      simp only [List.getElem?_cons_zero, Option.some.injEq] at hw
      subst hw
      exact ⟨c', hF, hrw⟩
where
  expTops_len : ∀ {vs : List V} {hp hp' : Heap} {ds : List D}, expTops hp vs = some (ds, hp') → ds.length = vs.length
    | [], hp, hp', ds, h => by
      simp only [expTops, Option.some.injEq, Prod.mk.injEq] at h
      rw [← h.1]; rfl
    | v :: vs, hp, hp', ds, h => by
      simp only [expTops] at h
      split at h
      · split at h
        · rename_i h2
          simp only [Option.some.injEq, Prod.mk.injEq] at h
          rw [← h.1, List.length_cons, List.length_cons, expTops_len h2]
        · cases h
      · cases h
theorem argV_argD {As : Shs} {x : Vals As.tys} (h : (allD (argV As x)).isSome = true) : argV As x = (argD As x).map .d := by
  unfold argD
  cases hd : allD (argV As x) with
  | none => rw [hd] at h; cases h
  | some ds => exact allD_spec _ _ hd
/-- a function is told -/
theorem fnK_sound {H : HK} (hok : HKOK P H) {L : Loops} {g : FuncId} (hL : LoopsOf P H.G 0 L g) {As : Shs} {m : Back} {a : Vals As.tys} (hd : (allD (argV As a)).isSome = true) {x : Vals m.tys} (h : fnK P H L g As m a some = some x) : Enters P g ∧ PCall P H.G g (argD As a) (encR m x) := by
  unfold fnK at h
  obtain ⟨v, n', hp', h1, h2, h3⟩ := bodyK_sound hok hL h
  obtain ⟨v2, hp2, h4, h5⟩ := expR_sound (n := n') h3
  refine ⟨h1, pcall_of (v := v2) (n := n') (hp := hp2) ?_ h4⟩
  rw [argV_argD hd] at h2
  intro c vs hG hg hH hRL
  refine (h2 c vs hG hg hH hRL).mono ?_
  rintro e w' ⟨u, c', rfl, rfl, hO⟩
  obtain ⟨c2, hF, hr⟩ := h5 c' u hO.heap hO.rel
  exact ⟨u, c2, rfl, hF.w.symm, hO.ext.trans hF.ext hO.le, hO.le, hF.heap, hr⟩
/-- arguments that are data -/
theorem row_told {H : HK} (hok : HKOK P H) {L : Loops} {g : FuncId} (hL : LoopsOf P H.G 0 L g) {As : Shs} {m : Back} {F : Vals As.tys → Option (Vals m.tys)} (hd : ∀ a, (allD (argV As a)).isSome = true) (h : ∀ a, fnK P H L g As m a some = F a) : RowOK P H.G (fnRow g As m F) := by
  have key : ∀ (ds : List D) (a : Vals As.tys) (q : Vals m.tys), decArgs As ds = some a → F a = some q → Enters P g ∧ PCall P H.G g ds (encR m q) := ?_
  · exact fun ds a q => key ds a q
  intro ds a q ha hq
  have hq' : fnK P H L g As m a some = some q := (h a).trans hq
  obtain ⟨h1, h2⟩ := fnK_sound hok hL (hd a) hq'
  refine ⟨h1, ?_⟩
  rw [decArgs_argD ha] at h2
  exact h2.coe coeA_len fun w I f hf => coeA_rel hf
/-! ### lists of what is told -/
def lp : List (Nat × Summ) → Loops
  | [], _ => .no
  | x :: r, k => bif x.1 == k then .yes x.2 else lp r k
def placeAt (c : Code) (k : Nat) : Code := match nodeAt c k with
  | some b => b
  | none => .skip
def bodyAt (c : Code) (k : Nat) : Code := match nodeAt c k with
  | some (.loop b) => b
  | _ => .skip
def codeOf (P : Program) (g : FuncId) : Code := match fnOf P g with
  | some d => d.code
  | none => .skip
def LpOK (P : Program) (G : Nat → Option (List D)) (nt n0 : Nat) (c : Code) : List (Nat × Summ) → Prop
  | [] => True
  | x :: r => SummOK P G nt n0 (placeAt c x.1) x.2 ∧ LpOK P G nt n0 c r
section
variable {G : Nat → Option (List D)} {nt n0 : Nat}
theorem lp_sem {c : Code} : ∀ {l : List (Nat × Summ)}, LpOK P G nt n0 c l → LoopsSem P G nt n0 (lp l) c 0
  | [], _, k, node, hn, s, hs => by cases hs
  | x :: r, h, k, node, hn, s, hs => by
    simp only [lp, Nat.zero_add] at hs
    cases hb : (x.1 == k) <;> rw [hb] at hs
    · simp only [cond_false] at hs
      exact lp_sem h.2 k node hn s (by rw [Nat.zero_add]; exact hs)
    · simp only [cond_true, Told.yes.injEq] at hs
      subst hs
      have hk : x.1 = k := by simpa using hb
      have := h.1
      rw [hk] at this
      simp only [placeAt, hn] at this
      exact this
theorem lp_of {g : FuncId} {l : List (Nat × Summ)} (h : LpOK P G (ntOf P g) n0 (codeOf P g) l) : LoopsOf P G n0 (lp l) g := by
  intro d hd
  have e1 : ntOf P g = d.nt := by simp only [ntOf, hd]
  have e2 : codeOf P g = d.code := by simp only [codeOf, hd]
  rw [e1, e2] at h
  exact lp_sem h
/-- a loop in a piece of code -/
theorem loop_sum {H : HK} (hok : HKOK P H) {c : Code} {k : Nat} {body : Code} (hn : placeAt c k = .loop body) (hc : okCode nt body = true) {l : List (Nat × Summ)} (hL : LpOK P H.G nt n0 body l) (sh : SSh) (os : PEnds) (ho : okEnds os = true)
    (t : Vals sh.tys → Option (Vals sh.tys ⊕ OutV os)) (h : ∀ s, turnK P H (lp l) body n0 sh os s some = t s) : SummOK P H.G nt n0 (placeAt c k) (NodeT.summ ⟨sh, os, rounds t⟩ n0) := by
  have key : ∀ s y, t s = some y → CodeN P H.G nt n0 body (sh.st (elts sh.tys s)) (turnEnd sh os y) := fun s y hy => turnK_sound hok hc (lp_sem hL) (by rw [h]; exact hy)
  intro st α K r hr
  unfold NodeT.summ at hr
  obtain ⟨ds, h1, hr⟩ := absK_sound hr
  split at hr
  · rename_i s hs
    obtain ⟨r', hf, hr⟩ := Option.bind_eq_some_iff.1 hr
    rw [outGo_is] at hr
    obtain ⟨n, hn'⟩ := rounds_some.1 hf
    have := (loopN_turns (e := fun s => sh.st (elts sh.tys s)) (x := outIs os) (okEnds_is ho) (fun s s' hs => key s _ hs) (fun s r hs => key s _ hs) n s r' hn').code
    have h2 : CodeN P H.G nt n0 (.loop body) (sh.st (elts sh.tys s)) (outIs os r') := this
    rw [decAll_elts hs] at h2
    rw [hn]
    exact ⟨_, _, CodeN.less h1 h2, hr⟩
  · cases hr
/-- another place in a piece of code -/
theorem place_sum {H : HK} (hok : HKOK P H) {c : Code} {k : Nat} (hc : okCode nt (placeAt c k) = true) {l : List (Nat × Summ)} (hL : LpOK P H.G nt n0 (placeAt c k) l) (sh : SSh) (os : PEnds)
    (f : Vals sh.tys → Option (OutV os)) (h : ∀ s, nodeK P H (lp l) (placeAt c k) n0 sh os s some = f s) : SummOK P H.G nt n0 (placeAt c k) (NodeT.summ ⟨sh, os, f⟩ n0) := by
  intro st α K r hr
  unfold NodeT.summ at hr
  obtain ⟨ds, h1, hr⟩ := absK_sound hr
  split at hr
  · rename_i s hs
    obtain ⟨r', hf, hr⟩ := Option.bind_eq_some_iff.1 hr
    rw [outGo_is] at hr
    have h2 := nodeK_sound hok hc (lp_sem hL) (y := r') (s := s) (by rw [h]; exact hf)
    rw [decAll_elts hs] at h2
    exact ⟨_, _, CodeN.less h1 h2, hr⟩
  · cases hr
end
def RowsOK (P : Program) (G : Nat → Option (List D)) : List Row → Prop
  | [] => True
  | w :: ws => RowOK P G w ∧ RowsOK P G ws
theorem rows_ok {G : Nat → Option (List D)} : ∀ {ws : List Row}, RowsOK P G ws → TabOK P G (tabF ws)
  | ws, h => tab_ok (all h)
where
  all : ∀ {ws : List Row}, RowsOK P G ws → ∀ w ∈ ws, RowOK P G w
    | [], _, w, hw => by cases hw
    | x :: ws, h, w, hw => by
      rcases List.mem_cons.1 hw with rfl | hw
      · exact h.1
      · exact all h.2 w hw
/-- a function of which only a closed call is told -/
def closedRow (g : FuncId) (q : D) : Row := ⟨g, Unit, Unit, fun ds => match ds with
  | [] => some ()
  | _ => none, fun _ => some (), fun _ => q⟩
theorem closed_ok {G : Nat → Option (List D)} {E : FuncId → Option (List D → Option (Bool × D))} (hE : ∀ g f, E g = some f → ExtOK P g (bare f)) {g : FuncId} {q : D} (k : Nat) (h : (hsN P G (fun g => (E g).map bare) k).pcall g [] = some q) : RowOK P G (closedRow g q) := by
  have key : ∀ (ds : List D) (a : Unit), (closedRow g q).dec ds = some a → Enters P g ∧ PCall P G g ds q := by
    intro ds a ha
    simp only [closedRow] at ha
    split at ha
    · have := (hsN_good (P := P) (G := G) (E := fun g => (E g).map bare) (fun g f h => by
        obtain ⟨f', h1, rfl⟩ := Option.map_eq_some_iff.1 h
        exact hE g f' h1) k).1.pcall g [] _ h
      rw [hsN_G] at this
      exact this
    · cases ha
  exact fun ds a q' ha _ => key ds a ha
/-- an octet of a text, as a number -/
def bt (s : ByteArray) (i : Nat) : Int := ((s.data.toList.getD i 0).toNat : Int)
/-- texts that are told -/
def bs (l : List UInt8) : ByteArray := ⟨l.toArray⟩
end Go.Fw
end
section
/- Readings of arguments, as typed data: numbers, texts, structs and slices of them. By this session. -/
set_option linter.unusedVariables false
set_option linter.unusedSimpArgs false
namespace Go.Fw
variable {P : Program}

mutual
/-- is a type of the program this one of plain data? -/
def okTy (P : Program) : Nat → TypeId → Ty → Bool
  | 0, _, _ => false
  | n + 1, t, T => match P.underlying t, T with
    | some .bool, .b => P.cellsOf t == 1
    | some (.int k), .i k' => decide (k = k') && P.cellsOf t == 1
    | some .string, .s => P.cellsOf t == 1
    | some (.slice e), .l T => P.cellsOf t == 1 && (okTy P n e T && (P.cellsOf e == T.w && Nat.blt 0 T.w))
    | some (.struct fs), .g T => okFs P n (P.cellsOf t) fs.toList 0 T
    | _, _ => false
def okFs (P : Program) : Nat → Nat → List Field → Nat → Ty → Bool
  | _, total, [], off, .u => off == total
  | 0, _, _, _, _ => false
  | n + 1, total, f :: fs, off, T => match fs, T with
    | [], T => f.offset == off && (okTy P n f.type T && (P.cellsOf f.type == T.w && off + T.w == total))
    | f' :: fs', .p a c => f.offset == off && (okTy P n f.type a && (P.cellsOf f.type == a.w && okFs P n total (f' :: fs') (off + a.w) c))
    | _, _ => false
  | _, _, _, _, _ => false
end
/-- data as they may be read -/
def Ty.fit : (T : Ty) → T.den → Prop
  | .b, _ => True
  | .s, x => x.size ≤ maxLen
  | .u, _ => True
  | .i k, n => (Lit.int k n).wf = true
  | .p a c, x => a.fit x.1 ∧ c.fit x.2
  | .g t, x => t.fit x
  | .l t, xs => xs.length ≤ maxLen ∧ ∀ x ∈ xs, t.fit x

def RelCs (w : World) (I : Mem) (ds : List D) (cs : List Value) : Prop := ds.length = cs.length ∧ ∀ (j : Nat) (d : D) (v : Value), ds[j]? = some d → cs[j]? = some v → RelD w I d v ∧ v.oneCell' = true
section
variable {H : Type} {enc : TypeId × Value → H} {w : World} {base : Nat} {spare : Nat → Bool} {held : Bool} {I : Mem}
theorem RelCs.one {d : D} {v : Value} (h : RelD w I d v) (h1 : v.oneCell' = true) : RelCs w I [d] [v] := by
  refine ⟨rfl, fun j d' v' hd hv => ?_⟩
  cases j with
  | zero => simp at hd hv; subst hd; subst hv; exact ⟨h, h1⟩
  | succ j => simp at hd
theorem RelCs.app {ds es : List D} {cs vs : List Value} (h : RelCs w I ds cs) (k : RelCs w I es vs) : RelCs w I (ds ++ es) (cs ++ vs) := by
  refine ⟨by simp [h.1, k.1], fun j d v hd hv => ?_⟩
  by_cases hj : j < ds.length
  · rw [List.getElem?_append_left hj] at hd
    rw [List.getElem?_append_left (by rw [← h.1]; exact hj)] at hv
    exact h.2 j d v hd hv
  · rw [List.getElem?_append_right (by omega)] at hd
    rw [List.getElem?_append_right (by rw [← h.1]; omega), ← h.1] at hv
    exact k.2 _ d v hd hv
theorem Ty.cells_len : ∀ (T : Ty) (x : T.den), (T.cells x).length = T.w
  | .b, _ => rfl
  | .s, _ => rfl
  | .u, _ => rfl
  | .i _, _ => rfl
  | .p a c, x => by simp only [Ty.cells, Ty.w, List.length_append, Ty.cells_len a, Ty.cells_len c]
  | .g t, x => Ty.cells_len t x
  | .l _, _ => rfl
theorem Ty.elt_width : ∀ (T : Ty) (x : T.den), (T.elt x).width = T.w
  | .b, _ => rfl
  | .s, _ => rfl
  | .u, _ => rfl
  | .i _, _ => rfl
  | .p a c, x => by simp only [Ty.elt, D.width, D.cells, List.length_append, Ty.cells_len, Ty.w]
  | .g t, x => Ty.cells_len t x
  | .l _, _ => rfl
theorem Ty.elt_cells : ∀ (T : Ty) (x : T.den), (T.elt x).cells = T.cells x
  | .b, _ => rfl
  | .s, _ => rfl
  | .u, _ => rfl
  | .i _, _ => rfl
  | .p _ _, _ => rfl
  | .g _, _ => rfl
  | .l _, _ => rfl
/-- a list, element by element -/
theorem list_of {α : Type} {n : Nat} {p : Nat → α → Prop} (h : ∀ i, i < n → ∃ x, p i x) : ∃ l : List α, l.length = n ∧ ∀ (i : Nat) (x : α), l[i]? = some x → p i x := by
  induction n with
  | zero => exact ⟨[], rfl, by simp⟩
  | succ n ih =>
    obtain ⟨l, h1, h2⟩ := ih fun i hi => h i (by omega)
    obtain ⟨x, hx⟩ := h n (by omega)
    refine ⟨l ++ [x], by simp [h1], fun i y hy => ?_⟩
    by_cases hi : i < l.length
    · rw [List.getElem?_append_left hi] at hy; exact h2 i y hy
    · rw [List.getElem?_append_right (by omega)] at hy
      have : i = n := by
        have := (List.getElem?_eq_some_iff.1 hy).1
        simp at this; omega
      subst this
      simp [h1] at hy
      subst hy; exact hx

theorem cells_some {a : Addr} {n : Nat} {cs : List Value} (h : w.cells? base a n = some cs) : cs.length = n ∧ ∀ (i : Nat) (v : Value), cs[i]? = some v → w.cell? (a.add i) = some v := by
  unfold World.cells? at h
  split at h
  · have h1 := mapM_some_length h
    refine ⟨by simpa using h1, fun i v hv => ?_⟩
    have hi := (List.getElem?_eq_some_iff.1 hv).1
    have hi' : i < n := by simp at h1; omega
    have h2 := mapM_some_get h i i (by simp [hi'])
    rw [h2]; exact hv
  · cases h
theorem cell_some {a : Addr} {v : Value} (h : w.cell? a = some v) : a.spot = none ∧ ∃ cs e fz, w.heap[a.block]? = some (.cells cs e fz) ∧ cs[a.off]? = some v := by
  unfold World.cell? at h
  split at h
  · rename_i cs e fz hb
    split at h
    · cases h
    · rename_i hs
      exact ⟨by simpa using hs, cs, e, fz, hb, h⟩
  · cases h
theorem add_block (a : Addr) (i : Nat) : (a.add i).block = a.block := by unfold Addr.add; split <;> rfl
theorem add_off (a : Addr) (i : Nat) : (a.add i).off = a.off + i := by
  unfold Addr.add
  split
  · rename_i h; rw [h]; rfl
  · rfl
theorem slice_rel {a : Addr} {len cap c : Nat} {T : Ty} (hc : c = T.w) (hw : 0 < T.w) (hcap : len ≤ cap) {l : List T.den} (hl : l.length = len)
    (h : ∀ (i : Nat) (y : T.den), l[i]? = some y → ∃ cs', w.cells? base (a.add (i * c)) c = some cs' ∧ RelCs w (fun b => b < w.heap.size) (T.cells y) cs') : RelD w (fun b => b < w.heap.size) (.sl T.w (.t T l)) (.slice (some a) len cap) := by
  subst hc
  by_cases h0 : len = 0
  · subst h0
    have : l = [] := List.eq_nil_of_length_eq_zero hl
    subst this
    exact .sl0 _ _ _ _ rfl (fun h => by cases h)
  · -- a cell of each element
    have cell : ∀ (i k : Nat) (y : T.den) (d : D), l[i]? = some y → (T.cells y)[k]? = some d → ∃ v, w.cell? ((a.add (i * T.w)).add k) = some v ∧ RelD w (fun b => b < w.heap.size) d v ∧ v.oneCell' = true := by
      intro i k y d hi hk
      obtain ⟨cs', h1, h2⟩ := h i y hi
      obtain ⟨h3, h4⟩ := cells_some h1
      have hkl := (List.getElem?_eq_some_iff.1 hk).1
      have hkc : k < cs'.length := by rw [← h2.1]; exact hkl
      have hv : cs'[k]? = some cs'[k] := List.getElem?_eq_getElem hkc
      obtain ⟨h5, h6⟩ := h2.2 k d _ hk hv
      exact ⟨_, h4 k _ hv, h5, h6⟩
    have get : ∀ i, i < len → ∃ y, l[i]? = some y := fun i hi => ⟨l[i]'(by omega), List.getElem?_eq_getElem (by omega)⟩
    have getC : ∀ (y : T.den) (k : Nat), k < T.w → ∃ d, (T.cells y)[k]? = some d := fun y k hk => ⟨(T.cells y)[k]'(by rw [Ty.cells_len]; exact hk), List.getElem?_eq_getElem (by rw [Ty.cells_len]; exact hk)⟩
    obtain ⟨y0, hy0⟩ := get 0 (by omega)
    obtain ⟨d0, hd0⟩ := getC y0 0 hw
    obtain ⟨v0, hv0, _, _⟩ := cell 0 0 y0 d0 hy0 hd0
    have e0 : (a.add (0 * T.w)).add 0 = a := by simp [Addr.add]
    rw [e0] at hv0
    obtain ⟨hsp, cs, e, fz, hb, _⟩ := cell_some hv0
    have at' : ∀ (i k : Nat) (y : T.den) (d : D), l[i]? = some y → (T.cells y)[k]? = some d → ∃ v, cs[a.off + i * T.w + k]? = some v ∧ RelD w (fun b => b < w.heap.size) d v ∧ v.oneCell' = true := by
      intro i k y d hi hk
      obtain ⟨v, h1, h2, h3⟩ := cell i k y d hi hk
      obtain ⟨_, cs1, e1, fz1, g1, g2⟩ := cell_some h1
      rw [add_block, add_block, hb] at g1
      injection g1 with g1
      injection g1 with g1
      subst g1
      rw [add_off, add_off] at g2
      exact ⟨v, g2, h2, h3⟩
    have flat : ∀ j, j < len * T.w → ∃ v, cs[a.off + j]? = some v ∧ v.oneCell' = true := by
      intro j hj
      have hq : j / T.w < len := Nat.div_lt_of_lt_mul (by rw [Nat.mul_comm]; exact hj)
      have hr : j % T.w < T.w := Nat.mod_lt _ hw
      obtain ⟨y, hy⟩ := get _ hq
      obtain ⟨d, hd⟩ := getC y _ hr
      obtain ⟨v, h1, _, h3⟩ := at' _ _ y d hy hd
      have : a.off + j / T.w * T.w + j % T.w = a.off + j := by
        have := Nat.div_add_mod j T.w
        rw [Nat.mul_comm] at this; omega
      rw [this] at h1
      exact ⟨v, h1, h3⟩
    have hpos : 0 < len * T.w := Nat.mul_pos (by omega) hw
    have hsz : a.off + len * T.w ≤ cs.size := by
      obtain ⟨v, hv, _⟩ := flat (len * T.w - 1) (by omega)
      have := (Array.getElem?_eq_some_iff.1 hv).1
      omega
    have hx : (Ls.t T l).xs.length = len := by simp [Ls.xs, hl]
    have := RelD.sl (w := w) (I := fun b => b < w.heap.size) T.w (.t T l) a cap cs e fz hsp (Array.getElem?_eq_some_iff.1 hb).1 hb (by rw [hx]; exact hcap) (fun x hx => by
        simp only [Ls.xs, List.mem_map] at hx
        obtain ⟨y, _, rfl⟩ := hx
        exact T.elt_width y) (by rw [hx]; exact hsz) (fun j hj => by
        rw [hx] at hj
        obtain ⟨v, hv, h1⟩ := flat j hj
        rw [Array.getD_eq_getD_getElem?, hv]; exact h1) (fun j k x d hj hk => by
        simp only [Ls.xs, List.getElem?_map] at hj
        obtain ⟨y, hy, rfl⟩ := Option.map_eq_some_iff.1 hj
        rw [Ty.elt_cells] at hk
        obtain ⟨v, h1, h2, _⟩ := at' j k y d hy hk
        rw [Array.getD_eq_getD_getElem?, h1]; exact h2)
    rw [hx] at this
    exact this

theorem read_ty (hI : True) : ∀ (n k : Nat) (t : TypeId) (T : Ty) (cs : List Value) (x : DataW H × List MemPlace), DataW.trod enc P w base spare held n t cs = some x → okTy P k t T = true →
    ∃ y : T.den, T.fit y ∧ RelCs w (fun b => b < w.heap.size) (T.cells y) cs := by
  intro n
  induction n with
  | zero => intro k t T cs x h _; simp [DataW.trod] at h
  | succ n ih =>
    intro k t T cs x h hk
    cases k with
    | zero => simp [okTy] at hk
    | succ k =>
      simp only [okTy] at hk
      split at hk
      · rename_i hu
        obtain ⟨b, rfl, _⟩ := DataW.trod_bool hu h
        exact ⟨b, trivial, .one (.b b) rfl⟩
      · rename_i ki kj hu
        simp only [Bool.and_eq_true, decide_eq_true_eq] at hk
        obtain ⟨rfl, _⟩ := hk
        obtain ⟨m, rfl, _, hw⟩ := DataW.trod_int hu h
        exact ⟨m, hw, .one (.i ki m) rfl⟩
      · rename_i hu
        obtain ⟨s, rfl, _, hw⟩ := DataW.trod_string hu h
        exact ⟨s, hw, .one (.s s) rfl⟩
      · rename_i e T hu
        simp only [Bool.and_eq_true, beq_iff_eq] at hk
        obtain ⟨_, hke, hce, hw0⟩ := hk
        have hw0 : 0 < T.w := by simpa [Nat.blt_eq] using hw0
        rcases DataW.trod_slice hu h with ⟨rfl, _⟩ | ⟨a, len, cap, elems, rest, m, hm, rfl, _, hb, hl, hcm, hlen, hel, _, _⟩
        · exact ⟨([] : List T.den), ⟨Nat.zero_le _, by simp⟩, .one (.sl0 _ _ _ _ rfl (fun _ => rfl)) rfl⟩
        · have hmn : m = n := by omega
          subst hmn
          obtain ⟨l, hll, hp⟩ := list_of (n := len) (p := fun i (y : T.den) => T.fit y ∧ ∃ cs', w.cells? base (a.add (i * P.cellsOf e)) (P.cellsOf e) = some cs' ∧ RelCs w (fun b => b < w.heap.size) (T.cells y) cs') (fun i hi => by
            have h1 := hel i hi
            rw [List.getElem?_eq_getElem (by omega)] at h1
            obtain ⟨cs', h2, h3⟩ := Option.bind_eq_some_iff.1 h1
            obtain ⟨y, h4, h5⟩ := ih k e T cs' _ h3 hke
            exact ⟨y, h4, cs', h2, h5⟩)
          refine ⟨l, ⟨by omega, fun x hx => ?_⟩, .one (slice_rel hce hw0 hl hll fun i y hy => (hp i y hy).2) rfl⟩
          obtain ⟨i, hi⟩ := List.getElem?_of_mem hx
          exact (hp i x hi).1
      · rename_i fs T hu
        obtain ⟨xs, m, hm, _, hl, hlen, hf⟩ := DataW.trod_struct hu h
        have hmn : m = n := by omega
        subst hmn
        obtain ⟨y, h1, h2, _⟩ := fields cs ih fs.toList k 0 T (by rw [hl]; exact hk) (fun f hf' => by
          obtain ⟨i, hi⟩ := List.getElem?_of_mem hf'
          rw [Array.getElem?_toList] at hi
          have hlt : i < xs.length := by rw [hlen]; exact (Array.getElem?_eq_some_iff.1 hi).1
          exact ⟨xs[i], by rw [hf i f hi, List.getElem?_eq_getElem hlt]⟩)
        exact ⟨y, h1, by rw [List.drop_zero] at h2; exact h2⟩
      · cases hk
where
  fields {n : Nat} (cs : List Value) (ih : ∀ (k : Nat) (t : TypeId) (T : Ty) (cs : List Value) (x : DataW H × List MemPlace), DataW.trod enc P w base spare held n t cs = some x → okTy P k t T = true → ∃ y : T.den, T.fit y ∧ RelCs w (fun b => b < w.heap.size) (T.cells y) cs) :
      ∀ (fs : List Field) (k off : Nat) (T : Ty), okFs P k cs.length fs off T = true → (∀ f ∈ fs, ∃ x, DataW.trod enc P w base spare held n f.type ((cs.drop f.offset).take (P.cellsOf f.type)) = some x) →
      ∃ y : T.den, T.fit y ∧ RelCs w (fun b => b < w.heap.size) (T.cells y) (cs.drop off) ∧ off ≤ cs.length
    | [], k, off, T, hk, _ => by
      have h2 : T = .u ∧ off = cs.length := by
        cases k <;> cases T <;> simp [okFs] at hk <;> exact ⟨rfl, hk⟩
      obtain ⟨rfl, h2⟩ := h2
      subst h2
      exact ⟨(), trivial, ⟨by simp [Ty.cells], fun j d v hd => by simp [Ty.cells] at hd⟩, Nat.le_refl _⟩
    | [f], k, off, T, hk, hx => by
      cases k with
      | zero => simp [okFs] at hk
      | succ k =>
        simp only [okFs, Bool.and_eq_true, beq_iff_eq] at hk
        obtain ⟨ho, hkt, hc, ht⟩ := hk
        obtain ⟨x, hx0⟩ := hx f List.mem_cons_self
        obtain ⟨y, h1, h2⟩ := ih k f.type T _ x hx0 hkt
        refine ⟨y, h1, ?_, by omega⟩
        rw [ho, hc, List.take_of_length_le (by simp; omega)] at h2
        exact h2
    | f :: f' :: fs, k, off, T, hk, hx => by
      cases k with
      | zero => simp [okFs] at hk
      | succ k =>
        cases T <;> first | (simp [okFs] at hk; done) | skip
        rename_i a c
        simp only [okFs, Bool.and_eq_true, beq_iff_eq] at hk
        obtain ⟨ho, hkt, hc, hr⟩ := hk
        obtain ⟨x, hx0⟩ := hx f List.mem_cons_self
        obtain ⟨y, h1, h2⟩ := ih k f.type a _ x hx0 hkt
        obtain ⟨z, h3, h4, h5⟩ := fields cs ih (f' :: fs) k _ c hr (fun g hg => hx g (List.mem_cons_of_mem _ hg))
        refine ⟨(y, z), ⟨h1, h3⟩, ?_, by omega⟩
        rw [ho, hc] at h2
        have := h2.app h4
        rw [← List.drop_drop, List.take_append_drop] at this
        exact this
/-- cells that stand for a struct's are the struct's -/
theorem RelCs.agg {I : Mem} {ds : List D} {cs : Array Value} (h : RelCs w I ds cs.toList) : RelD w I (.ag ds) (.agg cs) := by
  refine .ag ds cs (by rw [h.1, Array.length_toList]) (fun j hj => ?_) (fun j d hd => ?_)
  · have hj' : j < cs.size := by rw [h.1, Array.length_toList] at hj; exact hj
    have := (h.2 j _ _ (List.getElem?_eq_getElem hj) (by rw [Array.getElem?_toList, Array.getElem?_eq_getElem hj'])).2
    simpa [Array.getD_eq_getD_getElem?, Array.getElem?_eq_getElem hj'] using this
  · have hj := (List.getElem?_eq_some_iff.1 hd).1
    have hj' : j < cs.size := by rw [h.1, Array.length_toList] at hj; exact hj
    have := (h.2 j d _ hd (by rw [Array.getElem?_toList, Array.getElem?_eq_getElem hj'])).1
    simpa [Array.getD_eq_getD_getElem?, Array.getElem?_eq_getElem hj'] using this
end
open Go.WideShapes in
/-- an argument, read -/
theorem read_arg {H : Type} {enc : TypeId × Value → H} {W : World} {base : Nat} {t : TypeId} {T : Ty} {v : Value} {d : DataW H} {p : List MemPlace} (hk : okTy P 40 t T = true) (hv : Value.okWide P W .any base t v) (h : DataW.Trod enc P W 0 (fun _ => true) true t v d p) :
    ∃ y : T.den, T.fit y ∧ RelD W (fun b => b < W.heap.size) (T.elt y) v := by
  obtain ⟨n, hn⟩ := h
  obtain ⟨y, h1, h2⟩ := read_ty trivial n 40 t T _ _ hn hk
  refine ⟨y, h1, ?_⟩
  have leaf : ∀ {d : D} {v : Value}, v.cells = #[v] → RelCs W (fun b => b < W.heap.size) [d] v.cells.toList → RelD W (fun b => b < W.heap.size) d v := by
    intro d v hc hr
    rw [hc] at hr
    exact (hr.2 0 d v rfl rfl).1
  simp only [okTy] at hk
  split at hk
  · rename_i hu
    obtain ⟨b, rfl⟩ := okWide_bool hu hv
    exact leaf rfl h2
  · rename_i hu
    obtain ⟨b, rfl⟩ := okWide_int hu hv
    exact leaf rfl h2
  · rename_i hu
    obtain ⟨b, rfl⟩ := okWide_string hu hv
    exact leaf rfl h2
  · rename_i hu
    obtain ⟨a, len, cap, rfl⟩ := okWide_slice hu hv
    exact leaf rfl h2
  · rename_i hu
    obtain ⟨cs, rfl, _⟩ := okWide_struct hu hv
    exact h2.agg
  · cases hk
/-- a call that is told, as it is asked for at the top -/
theorem top_call {G : Nat → Option (List D)} {g : FuncId} {ds : List D} {r : D} (h : PCall P G g ds r) {W : World} (hG : Glob ⟨W, fun b => b < W.heap.size, fun _ => False, fun _ => 0, fun _ => 0, G⟩) {vs : Array Value} (hsz : vs.size = ds.length)
    (hv : ∀ (j : Nat) (d : D), ds[j]? = some d → RelD W (fun b => b < W.heap.size) d (vs.getD j undef)) : Calls P g vs W fun e W' => (∃ v I', e = .returned v ∧ RelX W' I' (fun _ => False) r v) ∧ Go.RowKit.Below W.heap.size W W' := by
  refine (h W (fun b => b < W.heap.size) (fun _ => False) vs hG (fun _ h => h) (fun _ h => h.elim) (fun _ _ h => h) hsz hv).mono ?_
  rintro e w' ⟨v, I', he, h1, h2, h3, h4, h5, h6, h7, h8, h9⟩
  exact ⟨⟨v, I', he, h9⟩, h6, h7, h8, h1, fun k hk => (h2 k hk).2⟩
theorem glob_none {W : World} {I K : Mem} {bk ln : Nat → Nat} : Glob ⟨W, I, K, bk, ln, fun _ => none⟩ := fun g cs h => by cases h
end Go.Fw
end
section
/- A law's call, from its arguments as they may be read: it returns true, and what was handed in reads as it did. By this session. -/
set_option linter.unusedVariables false
set_option linter.unusedSimpArgs false
namespace Go.Fw
open Go.ChangeShapes Go.WideShapes Go.ChangeAt Go.RowKit
/-- are these types of the program these of plain data? -/
def okTys (P : Program) : List TypeId → List Ty → Bool
  | [], [] => true
  | t :: ts, T :: Ts => okTy P 40 t T && (P.readableRec t && (decide (t < P.types.size) && okTys P ts Ts))
  | _, _ => false
def FitAll : (Ts : List Ty) → Vals Ts → Prop
  | [], _ => True
  | [T], x => T.fit x
  | T :: T' :: Ts, x => T.fit x.1 ∧ FitAll (T' :: Ts) x.2
section
variable {P : Program} {H : Type} {enc : TypeId × Value → H} {W : World} {base : Nat}
theorem read_all : ∀ {ts : List TypeId} {Ts : List Ty} {vs : List Value} {ds : List (DataW H)} {ps : List MemPlace}, okTys P ts Ts = true → DataW.TrodAll enc P W 0 (fun _ => true) true ts vs ds ps →
    (∀ (j : Nat) t v, ts[j]? = some t → vs[j]? = some v → Value.okWide P W .any base t v) →
    ∃ a : Vals Ts, FitAll Ts a ∧ ds.length = ts.length ∧ vs.length = (elts Ts a).length ∧ (∀ (j : Nat) (d : D), (elts Ts a)[j]? = some d → ∃ v, vs[j]? = some v ∧ RelD W (fun b => b < W.heap.size) d v)
  | [], [], vs, ds, ps, hk, h, hv => by
    obtain ⟨rfl, rfl, rfl⟩ := trodAll_nil h
    exact ⟨(), trivial, rfl, rfl, fun j d hd => by simp [elts] at hd⟩
  | [], _ :: _, vs, ds, ps, hk, h, hv => by simp [okTys] at hk
  | _ :: _, [], vs, ds, ps, hk, h, hv => by simp [okTys] at hk
  | t :: ts, T :: Ts, vs, ds, ps, hk, h, hv => by
    simp only [okTys, Bool.and_eq_true] at hk
    obtain ⟨hk, _, _, hks⟩ := hk
    obtain ⟨v, vs', d, ds', p, q, rfl, rfl, rfl, h0, h1⟩ := trodAll_cons h
    obtain ⟨y, hy, hr⟩ := read_arg hk (hv 0 t v rfl rfl) h0
    obtain ⟨a, ha, hl, hls, hrs⟩ := read_all hks h1 fun j t v ht hj => hv (j + 1) t v ht hj
    cases Ts with
    | nil =>
      cases ts with
      | cons => simp [okTys] at hks
      | nil =>
        obtain ⟨rfl, rfl, rfl⟩ := trodAll_nil h1
        refine ⟨y, hy, rfl, rfl, fun j d hd => ?_⟩
        cases j with
        | zero => simp [elts] at hd; subst hd; exact ⟨v, rfl, hr⟩
        | succ j => simp [elts] at hd
    | cons T' Ts =>
      refine ⟨(y, a), ⟨hy, ha⟩, by simp [hl], by simp [elts, hls], fun j d hd => ?_⟩
      cases j with
      | zero => simp [elts] at hd; subst hd; exact ⟨v, rfl, hr⟩
      | succ j => simp only [elts, List.getElem?_cons_succ] at hd; exact hrs j d hd
theorem trod_back (hl : laidOutB P = true) {W' : World} (hb : Below W.heap.size W W') : ∀ {ts : List TypeId} {Ts : List Ty} {vs : List Value} {ds : List (DataW H)} {ps : List MemPlace}, okTys P ts Ts = true → DataW.TrodAll enc P W 0 (fun _ => true) true ts vs ds ps →
    DataW.TrodAll enc P W' 0 (fun b => decide (b < W.heap.size)) true ts vs ds ps
  | [], [], vs, ds, ps, hk, h => by
    obtain ⟨rfl, rfl, rfl⟩ := trodAll_nil h
    exact trodAll_mk0
  | [], _ :: _, vs, ds, ps, hk, h => by simp [okTys] at hk
  | _ :: _, [], vs, ds, ps, hk, h => by simp [okTys] at hk
  | t :: ts, T :: Ts, vs, ds, ps, hk, h => by
    simp only [okTys, Bool.and_eq_true, decide_eq_true_eq] at hk
    obtain ⟨hk, hrr, hsz, hks⟩ := hk
    obtain ⟨v, vs', d, ds', p, q, rfl, rfl, rfl, h0, h1⟩ := trodAll_cons h
    have lt : ∀ x ∈ p, x.block < W.heap.size := by
      obtain ⟨m, hm⟩ := h0
      exact DataW.trod_lt m _ _ _ hm
    exact trodAll_cons_mk (Below.trod hl hrr hsz h0 hb lt) (trod_back hl hb hks h1)
/-- a law's call -/
theorem law_call {fn : Func} {g : FuncId} {As : Shs} {F : Vals As.tys → Option Bool} {s : ChangeSpec} {tb : TypeId} (hl : laidOutB P = true)
    (hok : RowOK P (fun _ => none) (fnRow g As [(false, .b)] F)) (hty : okTys P fn.params.toList As.tys = true) (hdec : ∀ a : Vals As.tys, decArgs As (elts As.tys a) = some a)
    (hres : fn.resultTypes = #[tb]) (htb : P.underlying tb = some .bool) (hvars : s.vars = []) (hspec : ∀ ds : List (DataW H), ds.length = fn.params.toList.length → (s.fn H ds).results = [.lit (.bool true)] ∧ (s.fn H ds).args = ds ∧ (s.fn H ds).vars = [])
    (hlaw : ∀ a : Vals As.tys, FitAll As.tys a → F a = some true)
    {args : Array Value} {ds gs : List (DataW H)} {before : List MemPlace} (hval : ∀ (j : Nat) t v, fn.params[j]? = some t → args[j]? = some v → Value.okWide P W .any base t v)
    (hW : DataW.Whole enc P fn.params.toList s.vars false W args.toList ds gs before) :
    Calls P g args W fun e W' => ∃ v, e = .returned v ∧ s.post enc P fn false true false false W args v W' := by
  have hW' := hW
  obtain ⟨p, q, hA, hV, rfl, hfz, hnd⟩ := hW
  obtain ⟨a, ha, hdl, hvl, hr⟩ := read_all hty hA fun j t v ht hv => hval j t v (by rw [← Array.getElem?_toList]; exact ht) (by rw [← Array.getElem?_toList]; exact hv)
  rw [hvars] at hV
  obtain ⟨rfl, rfl⟩ := trodVars_none hV
  have call := (hok _ a true (hdec a) (hlaw a ha)).2
  refine (top_call (W := W) (vs := args) call glob_none (by rw [← Array.length_toList]; exact hvl) (fun j d hd => ?_)).mono ?_
  · obtain ⟨v, hv, hrel⟩ := hr j d hd
    rw [Array.getElem?_toList] at hv
    rw [Array.getD_eq_getD_getElem?, hv]
    exact hrel
  · rintro e W' ⟨⟨v, I', rfl, hx⟩, bel⟩
    have hv : v = .bool true := by
      have hx' : RelX W' I' (fun _ => False) (.b true) v := hx
      cases hx'; rfl
    subst hv
    obtain ⟨s1, s2, s3⟩ := hspec (ds ++ []) (by rw [List.append_nil]; exact hdl)
    refine ⟨_, rfl, ds, [], p ++ [], [], p, [], hW', ?_, ?_, ?_, bel.frame _, fun h => by cases h⟩
    · rw [s1, hres]
      exact trodAll_mk1 (shut_bool htb _)
    · rw [s2, List.append_nil]
      exact trod_back hl bel hty hA
    · rw [s3, hvars]; rfl
end
end Go.Fw
end
section
/- Loops as rounds, texts and numbers: plain laws. By this session. -/
set_option linter.unusedVariables false
set_option linter.unusedSimpArgs false
namespace Go.Fw
theorem wrap_i64 {n : Int} (h1 : -9223372036854775808 ≤ n) (h2 : n ≤ 9223372036854775807) : IntKind.wrap .i64 n = n := by rw [IntKind.wrap_i64]; omega
theorem wrap_u64 (n : Int) : IntKind.wrap .u64 n = n % 18446744073709551616 := by
  show (if (false && decide (n % 18446744073709551616 ≥ 9223372036854775808)) = true then n % 18446744073709551616 - 18446744073709551616 else n % 18446744073709551616) = _
  simp
theorem wrap_u8 (n : Int) : IntKind.wrap .u8 n = n % 256 := by
  show (if (false && decide (n % 256 ≥ 128)) = true then n % 256 - 256 else n % 256) = _
  simp
theorem wrap_up {n : Nat} (h : n < 9223372036854775807) : IntKind.wrap .i64 ((n : Int) + 1) = ((n + 1 : Nat) : Int) := by rw [wrap_i64 (by omega) (by omega)]; omega
theorem bt_bound (s : ByteArray) (i : Nat) : 0 ≤ bt s i ∧ bt s i ≤ 255 := by
  unfold bt
  have := (s.data.toList.getD i 0).toNat_lt
  omega
section
variable {S R : Type} {t : S → Option (S ⊕ R)}
theorem rounds_end {s : S} {r : R} (h : t s = some (.inr r)) : rounds t s = some r := by rw [rounds_eq, h]
theorem rounds_next {s s' : S} (h : t s = some (.inl s')) : rounds t s = rounds t s' := by rw [rounds_eq, h]
theorem rounds_to (st : Nat → S) (n : Nat) (h : ∀ i, i < n → t (st i) = some (.inl (st (i + 1)))) : rounds t (st 0) = rounds t (st n) := by
  induction n with
  | zero => rfl
  | succ n ih => rw [ih fun i hi => h i (by omega), rounds_next (h n (by omega))]
/-- rounds that go on while it is so -/
theorem rounds_all (st : Nat → S) (p : Nat → Bool) (out fin : R) (n : Nat) (h : ∀ i, i < n → t (st i) = some (bif p i then .inl (st (i + 1)) else .inr out)) (hf : t (st n) = some (.inr fin)) :
    rounds t (st 0) = some (bif (List.range n).all p then fin else out) := by
  have go : ∀ k, k ≤ n → rounds t (st 0) = bif (List.range k).all p then rounds t (st k) else some out := by
    intro k
    induction k with
    | zero => intro _; rfl
    | succ k ih =>
      intro hk
      rw [ih (by omega), List.range_succ, List.all_append]
      cases (List.range k).all p with
      | false => rfl
      | true =>
        have h1 := h k (by omega)
        cases hp : p k with
        | false => rw [hp] at h1; simp [hp, rounds_end h1]
        | true => rw [hp] at h1; simp [hp, rounds_next h1]
  rw [go n (Nat.le_refl _), rounds_end hf]
  cases (List.range n).all p <;> rfl
end
/-- sums of so many -/
def sumTo (f : Nat → Int) : Nat → Int
  | 0 => 0
  | n + 1 => sumTo f n + f n
theorem sumTo_back (f : Nat → Int) : ∀ n, sumTo (fun j => f (n - 1 - j)) n = sumTo f n := by
  have first : ∀ (g : Nat → Int) (n : Nat), sumTo g (n + 1) = g 0 + sumTo (fun j => g (j + 1)) n := by
    intro g n
    induction n with
    | zero => simp [sumTo]
    | succ n ih => rw [sumTo, ih, sumTo]; omega
  have same : ∀ (g h : Nat → Int) (n : Nat), (∀ j, j < n → g j = h j) → sumTo g n = sumTo h n := by
    intro g h n
    induction n with
    | zero => intro _; rfl
    | succ n ih => intro hh; rw [sumTo, sumTo, ih fun j hj => hh j (by omega), hh n (by omega)]
  intro n
  induction n with
  | zero => rfl
  | succ n ih =>
    rw [first, sumTo, ← ih, same (fun j => f (n + 1 - 1 - (j + 1))) (fun j => f (n - 1 - j)) n fun j hj => by
      have : n + 1 - 1 - (j + 1) = n - 1 - j := by omega
      simp only [this]]
    simp only [Nat.add_sub_cancel, Nat.sub_zero]
    omega
theorem sumTo_bound {f : Nat → Int} {b : Int} : ∀ {n : Nat}, (∀ j, j < n → 0 ≤ f j ∧ f j ≤ b) → 0 ≤ sumTo f n ∧ sumTo f n ≤ b * n
  | 0, _ => by simp [sumTo]
  | n + 1, h => by
    have ih := sumTo_bound (f := f) (b := b) (n := n) fun j hj => h j (by omega)
    have := h n (by omega)
    have e : b * ((n + 1 : Nat) : Int) = b * n + b := by rw [Int.natCast_add, Int.mul_add]; simp
    rw [sumTo, e]
    omega
theorem sumTo_same {g h : Nat → Int} : ∀ {n : Nat}, (∀ j, j < n → g j = h j) → sumTo g n = sumTo h n
  | 0, _ => rfl
  | n + 1, hh => by rw [sumTo, sumTo, sumTo_same fun j hj => hh j (by omega), hh n (by omega)]
/-! ### lists -/
theorem getD_at {α : Type} {l : List α} {i : Nat} {d : α} (h : i < l.length) : l.getD i d = l[i] := by simp [List.getD_eq_getElem?_getD, List.getElem?_eq_getElem h]
theorem take_up {α : Type} {l : List α} {i : Nat} (d : α) (h : i < l.length) : l.take (i + 1) = l.take i ++ [l.getD i d] := by
  rw [List.take_succ_eq_append_getElem h, getD_at h]
theorem range_all {α : Type} (p : α → Bool) (d : α) (l : List α) : ((List.range l.length).all fun i => p (l.getD i d)) = l.all p := by
  rw [Bool.eq_iff_iff, List.all_eq_true, List.all_eq_true]
  constructor
  · intro h x hx
    obtain ⟨i, hi, rfl⟩ := List.getElem_of_mem hx
    have := h i (List.mem_range.2 hi)
    rwa [getD_at hi] at this
  · intro h i hi
    have hi := List.mem_range.1 hi
    rw [getD_at hi]
    exact h _ (List.getElem_mem hi)
/-- is there room for one more? -/
theorem room {n m : Nat} (w k : Nat) (h : n ≤ m) (hw : (m + 1) * w ≤ k) : Nat.ble ((n + 1) * w) k = true := Nat.ble_eq_true_of_le (Nat.le_trans (Nat.mul_le_mul_right w (by omega)) hw)
end Go.Fw
end
section
/- The program of this seat, the types of its data, and its functions without a body. By this session. -/
set_option linter.unusedVariables false
set_option linter.unusedSimpArgs false
namespace Go.Proofs.Ytloambokbipnjaa
open Go Go.Fw
noncomputable abbrev P := Try.prog
abbrev G0 : Nat → Option (List D) := fun _ => none
abbrev T_api_Account : Ty := (.g (.p (.i .i64) .s))
abbrev T_api_Mti : Ty := (.g (.p (.i .i64) (.p .b (.p .b .b))))
abbrev T_bursarlaw14_Act : Ty := (.g (.p (.i .i64) (.p (.i .i64) (.i .i64))))
abbrev T_api_Hold : Ty := (.g (.p .s (.p .s (.p .s (.p (.i .i64) (.p (.i .i64) (.p (.i .i64) .b)))))))
def add64 : List D → Option (Bool × D) := fun ds => match ds with
  | [.i .u64 x, .i .u64 y, .i .u64 c] => some (decide (0 ≤ x) && decide (0 ≤ y) && decide (0 ≤ c) && decide (c ≤ 1), .tp [.i .u64 ((x + y + c) % 18446744073709551616), .i .u64 ((x + y + c) / 18446744073709551616)])
  | _ => none
theorem add64_ok : ExtOK P 48 (bare add64) := by
  intro ds r h w I vs hsz hv
  unfold bare add64 at h
  split at h
  · rename_i b q hq
    obtain ⟨hb, h⟩ := cond_some h
    injection h with h
    subst h
    split at hq
    · rename_i x y c
      injection hq with hq
      injection hq with hq1 hq2
      subst hq2
      rw [hb] at hq1
      simp only [Bool.and_eq_true, decide_eq_true_eq] at hq1
      have e0 := hv 0 _ rfl
      have e1 := hv 1 _ rfl
      have e2 := hv 2 _ rfl
      have hvs : vs = #[.int .u64 x, .int .u64 y, .int .u64 c] := by
        have : vs = #[vs.getD 0 undef, vs.getD 1 undef, vs.getD 2 undef] := by
          apply Array.ext
          · simpa using hsz
          · intro i hi hi'
            simp at hi'
            have : i = 0 ∨ i = 1 ∨ i = 2 := by omega
            rcases this with rfl | rfl | rfl <;> simp [Array.getD_eq_getD_getElem?, Array.getElem?_eq_getElem hi]
        rw [this]
        generalize vs.getD 0 undef = a0 at e0
        generalize vs.getD 1 undef = a1 at e1
        generalize vs.getD 2 undef = a2 at e2
        cases e0; cases e1; cases e2
        rfl
      refine ⟨_, by rw [hvs, run_callFunc_extern Try.func48 (by kernel_rfl) (by kernel_rfl) (by kernel_rfl) (e := add64Entry) (by kernel_rfl), run_add64 x y c (by omega) (by omega) (by omega) (by omega)]; rfl, ?_⟩
      refine .tp _ _ rfl fun j d hj => ?_
      match j, hj with
      | 0, hj => simp at hj; subst hj; exact .i _ _
      | 1, hj => simp at hj; subst hj; exact .i _ _
      | j + 2, hj => simp at hj
    · cases hq
  · cases h
abbrev E0 : FuncId → Option (List D → Option (Bool × D)) := fun g => bif g == 48 then some add64 else none
theorem e0_ok : ∀ g f, E0 g = some f → ExtOK P g (bare f) := by
  intro g f h
  unfold E0 at h
  obtain ⟨h1, h2⟩ := cond_some h
  injection h2 with h2
  subst h2
  have : g = 48 := by simpa using h1
  subst this
  exact add64_ok
end Go.Proofs.Ytloambokbipnjaa
end
section
/- The Go function digit.All, as a Lean function, and that it is this one. Written by a program of this session. -/
set_option linter.unusedVariables false
set_option maxRecDepth 100000
namespace Go.Proofs.Ytloambokbipnjaa
open Go Go.Fw
abbrev digit_All.As : Shs := (.cons (.x .s) .nil)
abbrev digit_All.m : Back := [(false, .b)]
noncomputable abbrev digit_All.H : HK := hk P G0 E0 [] noLoops 4
theorem digit_All.hok : HKOK P digit_All.H := hk_ok e0_ok (rows_ok (ws := []) trivial) (fun g n => noLoops_ok g n) 4
abbrev digit_All.sh3 : SSh := ⟨[(0, (.x .s)), (5, (.x (.i .i64))), (6, (.x (.i .i64)))], []⟩
abbrev digit_All.os3 : PEnds := [(.ret, ⟨[(2, (.x .b))], []⟩), ((.exit 0), ⟨[], []⟩)]
noncomputable def digit_All.t3 (s : (ByteArray × (Int × Int))) : Option ((ByteArray × (Int × Int)) ⊕ (Bool ⊕ Unit)) := (bif (decide ((s.2.2 < s.2.1))) then (bif ((decide (((0 : Int) ≤ s.2.2))) && (decide ((s.2.2 < (s.1.size : Int))))) then (bif (decide (((bt s.1 (Int.toNat s.2.2)) < (48 : Int)))) then (some (.inr (.inl false))) else (bif ((decide (((0 : Int) ≤ s.2.2))) && (decide ((s.2.2 < (s.1.size : Int))))) then (bif (decide (((bt s.1 (Int.toNat s.2.2)) > (57 : Int)))) then (some (.inr (.inl false))) else (some (.inl (s.1, (s.2.1, (IntKind.wrap .i64 (s.2.2 + (1 : Int)))))))) else none)) else none) else (some (.inr (.inr ()))))
theorem digit_All.t3_ok : ∀ s : Vals digit_All.sh3.tys, turnK P digit_All.H (lp []) (bodyAt (codeOf P 52) 3) 0 digit_All.sh3 digit_All.os3 s some = digit_All.t3 s := fun s => by kernel_rfl
noncomputable def digit_All.l3 : (ByteArray × (Int × Int)) → Option (Bool ⊕ Unit) := rounds digit_All.t3
noncomputable def digit_All.f (a : ByteArray) : Option Bool := (((digit_All.l3 (a, ((a.size : Int), (0 : Int))))).bind fun (x1 : (Bool ⊕ PUnit)) => (match x1 with | .inl x2 => (some x2) | .inr x2 => (some true)))
theorem digit_All.ok : ∀ a : Vals digit_All.As.tys, fnK P digit_All.H (lp [(3, NodeT.summ ⟨digit_All.sh3, digit_All.os3, digit_All.l3⟩ 0)]) 52 digit_All.As digit_All.m a some = digit_All.f a := fun a => by kernel_rfl
noncomputable abbrev digit_All.row : Row := fnRow 52 digit_All.As digit_All.m digit_All.f
theorem digit_All.row_ok : RowOK P G0 digit_All.row := row_told digit_All.hok (lp_of (l := [(3, NodeT.summ ⟨digit_All.sh3, digit_All.os3, digit_All.l3⟩ 0)]) ⟨loop_sum digit_All.hok (by kernel_rfl) (by kernel_rfl) (l := []) trivial digit_All.sh3 digit_All.os3 (by kernel_rfl) digit_All.t3 digit_All.t3_ok, trivial⟩) (fun _ => rfl) digit_All.ok
end Go.Proofs.Ytloambokbipnjaa
end
section
/- The Go function digit.sum, as a Lean function, and that it is this one. Written by a program of this session. -/
set_option linter.unusedVariables false
set_option maxRecDepth 100000
namespace Go.Proofs.Ytloambokbipnjaa
open Go Go.Fw
abbrev digit_sum.As : Shs := (.cons (.x .s) .nil)
abbrev digit_sum.m : Back := [(false, (.i .i64))]
noncomputable abbrev digit_sum.H : HK := hk P G0 E0 [] noLoops 4
theorem digit_sum.hok : HKOK P digit_sum.H := hk_ok e0_ok (rows_ok (ws := []) trivial) (fun g n => noLoops_ok g n) 4
abbrev digit_sum.sh5 : SSh := ⟨[(0, (.x .s)), (3, (.fn 71 .nil)), (4, (.x (.i .i64))), (8, (.x (.i .i64))), (9, (.x (.i .i64)))], []⟩
abbrev digit_sum.os5 : PEnds := [((.exit 0), ⟨[(4, (.x (.i .i64)))], []⟩)]
noncomputable def digit_sum.t5 (s : (ByteArray × (Int × (Int × Int)))) : Option ((ByteArray × (Int × (Int × Int))) ⊕ (Int)) := (bif (decide ((s.2.2.2 < s.2.2.1))) then (bif ((decide (((0 : Int) ≤ (IntKind.wrap .i64 ((IntKind.wrap .i64 ((s.1.size : Int) - (1 : Int))) - s.2.2.2))))) && (decide (((IntKind.wrap .i64 ((IntKind.wrap .i64 ((s.1.size : Int) - (1 : Int))) - s.2.2.2)) < (s.1.size : Int))))) then (bif ((Int.tmod s.2.2.2 (2 : Int)) == (1 : Int)) then (some (.inl (s.1, ((IntKind.wrap .i64 (s.2.1 + (IntKind.wrap .i64 ((IntKind.wrap .i64 ((2 : Int) * (IntKind.wrap .i64 (IntKind.wrap .u8 ((bt s.1 (Int.toNat (IntKind.wrap .i64 ((IntKind.wrap .i64 ((s.1.size : Int) - (1 : Int))) - s.2.2.2)))) - (48 : Int)))))) - (IntKind.wrap .i64 ((9 : Int) * (IntKind.wrap .i64 (Int.tdiv (IntKind.wrap .i64 (IntKind.wrap .u8 ((bt s.1 (Int.toNat (IntKind.wrap .i64 ((IntKind.wrap .i64 ((s.1.size : Int) - (1 : Int))) - s.2.2.2)))) - (48 : Int)))) (5 : Int))))))))), (s.2.2.1, (IntKind.wrap .i64 (s.2.2.2 + (1 : Int)))))))) else (some (.inl (s.1, ((IntKind.wrap .i64 (s.2.1 + (IntKind.wrap .i64 (IntKind.wrap .u8 ((bt s.1 (Int.toNat (IntKind.wrap .i64 ((IntKind.wrap .i64 ((s.1.size : Int) - (1 : Int))) - s.2.2.2)))) - (48 : Int)))))), (s.2.2.1, (IntKind.wrap .i64 (s.2.2.2 + (1 : Int))))))))) else none) else (some (.inr s.2.1)))
theorem digit_sum.t5_ok : ∀ s : Vals digit_sum.sh5.tys, turnK P digit_sum.H (lp []) (bodyAt (codeOf P 59) 5) 0 digit_sum.sh5 digit_sum.os5 s some = digit_sum.t5 s := fun s => by kernel_rfl
noncomputable def digit_sum.l5 : (ByteArray × (Int × (Int × Int))) → Option (Int) := rounds digit_sum.t5
noncomputable def digit_sum.f (a : ByteArray) : Option Int := (((digit_sum.l5 (a, ((0 : Int), ((a.size : Int), (0 : Int)))))).bind fun (x1 : Int) => (some x1))
theorem digit_sum.ok : ∀ a : Vals digit_sum.As.tys, fnK P digit_sum.H (lp [(5, NodeT.summ ⟨digit_sum.sh5, digit_sum.os5, digit_sum.l5⟩ 0)]) 59 digit_sum.As digit_sum.m a some = digit_sum.f a := fun a => by kernel_rfl
noncomputable abbrev digit_sum.row : Row := fnRow 59 digit_sum.As digit_sum.m digit_sum.f
theorem digit_sum.row_ok : RowOK P G0 digit_sum.row := row_told digit_sum.hok (lp_of (l := [(5, NodeT.summ ⟨digit_sum.sh5, digit_sum.os5, digit_sum.l5⟩ 0)]) ⟨loop_sum digit_sum.hok (by kernel_rfl) (by kernel_rfl) (l := []) trivial digit_sum.sh5 digit_sum.os5 (by kernel_rfl) digit_sum.t5 digit_sum.t5_ok, trivial⟩) (fun _ => rfl) digit_sum.ok
end Go.Proofs.Ytloambokbipnjaa
end
section
/- The Go function digit.Sound, as a Lean function, and that it is this one. Written by a program of this session. -/
set_option linter.unusedVariables false
set_option maxRecDepth 100000
namespace Go.Proofs.Ytloambokbipnjaa
open Go Go.Fw
abbrev digit_Sound.As : Shs := (.cons (.x .s) .nil)
abbrev digit_Sound.m : Back := [(false, .b)]
noncomputable abbrev digit_Sound.H : HK := hk P G0 E0 [digit_All.row, digit_sum.row] noLoops 4
theorem digit_Sound.hok : HKOK P digit_Sound.H := hk_ok e0_ok (rows_ok (ws := [digit_All.row, digit_sum.row]) ⟨digit_All.row_ok, ⟨digit_sum.row_ok, trivial⟩⟩) (fun g n => noLoops_ok g n) 4
noncomputable def digit_Sound.f (a : ByteArray) : Option Bool := (bif (decide (((a.size : Int) ≥ (2 : Int)))) then (((digit_All.f a)).bind fun (x1 : Bool) => (bif x1 then (((digit_sum.f a)).bind fun (x2 : Int) => (some ((Int.tmod x2 (10 : Int)) == (0 : Int)))) else (some false))) else (some false))
theorem digit_Sound.ok : ∀ a : Vals digit_Sound.As.tys, fnK P digit_Sound.H (lp []) 51 digit_Sound.As digit_Sound.m a some = digit_Sound.f a := fun a => by kernel_rfl
noncomputable abbrev digit_Sound.row : Row := fnRow 51 digit_Sound.As digit_Sound.m digit_Sound.f
theorem digit_Sound.row_ok : RowOK P G0 digit_Sound.row := row_told digit_Sound.hok (lp_of (l := []) trivial) (fun _ => rfl) digit_Sound.ok
end Go.Proofs.Ytloambokbipnjaa
end
section
/- The Go function bursarref02.All, as a Lean function, and that it is this one. Written by a program of this session. -/
set_option linter.unusedVariables false
set_option maxRecDepth 100000
namespace Go.Proofs.Ytloambokbipnjaa
open Go Go.Fw
abbrev bursarref02_All.As : Shs := (.cons (.x .s) .nil)
abbrev bursarref02_All.m : Back := [(false, .b)]
noncomputable abbrev bursarref02_All.H : HK := hk P G0 E0 [] noLoops 4
theorem bursarref02_All.hok : HKOK P bursarref02_All.H := hk_ok e0_ok (rows_ok (ws := []) trivial) (fun g n => noLoops_ok g n) 4
abbrev bursarref02_All.sh3 : SSh := ⟨[(0, (.x .s)), (3, (.x (.i .i64)))], []⟩
abbrev bursarref02_All.os3 : PEnds := [(.ret, ⟨[(2, (.x .b))], []⟩), ((.exit 0), ⟨[], []⟩)]
noncomputable def bursarref02_All.t3 (s : (ByteArray × Int)) : Option ((ByteArray × Int) ⊕ (Bool ⊕ Unit)) := (bif (decide ((s.2 < (s.1.size : Int)))) then (bif ((decide (((0 : Int) ≤ s.2))) && (decide ((s.2 < (s.1.size : Int))))) then (bif (decide (((bt s.1 (Int.toNat s.2)) < (48 : Int)))) then (some (.inr (.inl false))) else (bif ((decide (((0 : Int) ≤ s.2))) && (decide ((s.2 < (s.1.size : Int))))) then (bif (decide (((bt s.1 (Int.toNat s.2)) > (57 : Int)))) then (some (.inr (.inl false))) else (some (.inl (s.1, (IntKind.wrap .i64 (s.2 + (1 : Int))))))) else none)) else none) else (some (.inr (.inr ()))))
theorem bursarref02_All.t3_ok : ∀ s : Vals bursarref02_All.sh3.tys, turnK P bursarref02_All.H (lp []) (bodyAt (codeOf P 58) 3) 0 bursarref02_All.sh3 bursarref02_All.os3 s some = bursarref02_All.t3 s := fun s => by kernel_rfl
noncomputable def bursarref02_All.l3 : (ByteArray × Int) → Option (Bool ⊕ Unit) := rounds bursarref02_All.t3
noncomputable def bursarref02_All.f (a : ByteArray) : Option Bool := (((bursarref02_All.l3 (a, (0 : Int)))).bind fun (x1 : (Bool ⊕ PUnit)) => (match x1 with | .inl x2 => (some x2) | .inr x2 => (some true)))
theorem bursarref02_All.ok : ∀ a : Vals bursarref02_All.As.tys, fnK P bursarref02_All.H (lp [(3, NodeT.summ ⟨bursarref02_All.sh3, bursarref02_All.os3, bursarref02_All.l3⟩ 0)]) 58 bursarref02_All.As bursarref02_All.m a some = bursarref02_All.f a := fun a => by kernel_rfl
noncomputable abbrev bursarref02_All.row : Row := fnRow 58 bursarref02_All.As bursarref02_All.m bursarref02_All.f
theorem bursarref02_All.row_ok : RowOK P G0 bursarref02_All.row := row_told bursarref02_All.hok (lp_of (l := [(3, NodeT.summ ⟨bursarref02_All.sh3, bursarref02_All.os3, bursarref02_All.l3⟩ 0)]) ⟨loop_sum bursarref02_All.hok (by kernel_rfl) (by kernel_rfl) (l := []) trivial bursarref02_All.sh3 bursarref02_All.os3 (by kernel_rfl) bursarref02_All.t3 bursarref02_All.t3_ok, trivial⟩) (fun _ => rfl) bursarref02_All.ok
end Go.Proofs.Ytloambokbipnjaa
end
section
/- The Go function bursarref02.Sound, as a Lean function, and that it is this one. Written by a program of this session. -/
set_option linter.unusedVariables false
set_option maxRecDepth 100000
namespace Go.Proofs.Ytloambokbipnjaa
open Go Go.Fw
abbrev bursarref02_Sound.As : Shs := (.cons (.x .s) .nil)
abbrev bursarref02_Sound.m : Back := [(false, .b)]
noncomputable abbrev bursarref02_Sound.H : HK := hk P G0 E0 [bursarref02_All.row] noLoops 4
theorem bursarref02_Sound.hok : HKOK P bursarref02_Sound.H := hk_ok e0_ok (rows_ok (ws := [bursarref02_All.row]) ⟨bursarref02_All.row_ok, trivial⟩) (fun g n => noLoops_ok g n) 4
abbrev bursarref02_Sound.sh7 : SSh := ⟨[(0, (.x .s)), (3, (.x (.i .i64))), (4, (.x (.i .i64)))], []⟩
abbrev bursarref02_Sound.os7 : PEnds := [((.exit 0), ⟨[(3, (.x (.i .i64)))], []⟩)]
noncomputable def bursarref02_Sound.t7 (s : (ByteArray × (Int × Int))) : Option ((ByteArray × (Int × Int)) ⊕ (Int)) := (bif (decide ((s.2.2 < (s.1.size : Int)))) then (bif ((decide (((0 : Int) ≤ s.2.2))) && (decide ((s.2.2 < (s.1.size : Int))))) then (bif ((Int.tmod (IntKind.wrap .i64 ((s.1.size : Int) - s.2.2)) (2 : Int)) == (0 : Int)) then (bif (decide (((IntKind.wrap .i64 ((2 : Int) * (IntKind.wrap .i64 ((IntKind.wrap .i64 (bt s.1 (Int.toNat s.2.2))) - (48 : Int))))) > (9 : Int)))) then (some (.inl (s.1, ((IntKind.wrap .i64 (s.2.1 + (IntKind.wrap .i64 ((IntKind.wrap .i64 ((2 : Int) * (IntKind.wrap .i64 ((IntKind.wrap .i64 (bt s.1 (Int.toNat s.2.2))) - (48 : Int))))) - (9 : Int))))), (IntKind.wrap .i64 (s.2.2 + (1 : Int))))))) else (some (.inl (s.1, ((IntKind.wrap .i64 (s.2.1 + (IntKind.wrap .i64 ((2 : Int) * (IntKind.wrap .i64 ((IntKind.wrap .i64 (bt s.1 (Int.toNat s.2.2))) - (48 : Int))))))), (IntKind.wrap .i64 (s.2.2 + (1 : Int)))))))) else (some (.inl (s.1, ((IntKind.wrap .i64 (s.2.1 + (IntKind.wrap .i64 ((IntKind.wrap .i64 (bt s.1 (Int.toNat s.2.2))) - (48 : Int))))), (IntKind.wrap .i64 (s.2.2 + (1 : Int)))))))) else none) else (some (.inr s.2.1)))
theorem bursarref02_Sound.t7_ok : ∀ s : Vals bursarref02_Sound.sh7.tys, turnK P bursarref02_Sound.H (lp []) (bodyAt (codeOf P 57) 7) 0 bursarref02_Sound.sh7 bursarref02_Sound.os7 s some = bursarref02_Sound.t7 s := fun s => by kernel_rfl
noncomputable def bursarref02_Sound.l7 : (ByteArray × (Int × Int)) → Option (Int) := rounds bursarref02_Sound.t7
noncomputable def bursarref02_Sound.f (a : ByteArray) : Option Bool := (bif (decide (((a.size : Int) < (2 : Int)))) then (some false) else (((bursarref02_All.f a)).bind fun (x1 : Bool) => (bif (!x1) then (some false) else (((bursarref02_Sound.l7 (a, ((0 : Int), (0 : Int))))).bind fun (x2 : Int) => (some ((Int.tmod x2 (10 : Int)) == (0 : Int)))))))
theorem bursarref02_Sound.ok : ∀ a : Vals bursarref02_Sound.As.tys, fnK P bursarref02_Sound.H (lp [(7, NodeT.summ ⟨bursarref02_Sound.sh7, bursarref02_Sound.os7, bursarref02_Sound.l7⟩ 0)]) 57 bursarref02_Sound.As bursarref02_Sound.m a some = bursarref02_Sound.f a := fun a => by kernel_rfl
noncomputable abbrev bursarref02_Sound.row : Row := fnRow 57 bursarref02_Sound.As bursarref02_Sound.m bursarref02_Sound.f
theorem bursarref02_Sound.row_ok : RowOK P G0 bursarref02_Sound.row := row_told bursarref02_Sound.hok (lp_of (l := [(7, NodeT.summ ⟨bursarref02_Sound.sh7, bursarref02_Sound.os7, bursarref02_Sound.l7⟩ 0)]) ⟨loop_sum bursarref02_Sound.hok (by kernel_rfl) (by kernel_rfl) (l := []) trivial bursarref02_Sound.sh7 bursarref02_Sound.os7 (by kernel_rfl) bursarref02_Sound.t7 bursarref02_Sound.t7_ok, trivial⟩) (fun _ => rfl) bursarref02_Sound.ok
end Go.Proofs.Ytloambokbipnjaa
end
section
/- Digits: what the code and the document's answer compute. By this session. -/
set_option linter.unusedVariables false
set_option linter.unusedSimpArgs false
namespace Go.Proofs.Ytloambokbipnjaa
open Go Go.Fw
def digC (s : ByteArray) (i : Nat) : Bool := decide (48 ≤ bt s i) && decide (bt s i ≤ 57)
def digitsB (s : ByteArray) : Bool := (List.range s.size).all (digC s)
theorem digit_All_is (s : ByteArray) (hs : s.size ≤ 4611686018427387904) : digit_All.f s = some (digitsB s) := by
  have h := rounds_all (t := digit_All.t3) (fun i => (s, ((s.size : Int), (i : Int)))) (digC s) (.inl false) (.inr ()) s.size (fun i hi => by
    have := bt_bound s i
    have := wrap_up (n := i) (by omega)
    grind [digit_All.t3, digC]) (by simp [digit_All.t3])
  unfold digit_All.f digit_All.l3
  rw [show ((0 : Int)) = ((0 : Nat) : Int) from rfl, h]
  unfold digitsB
  cases (List.range s.size).all (digC s) <;> rfl
theorem ref_All_is (s : ByteArray) (hs : s.size ≤ 4611686018427387904) : bursarref02_All.f s = some (digitsB s) := by
  have h := rounds_all (t := bursarref02_All.t3) (fun i => (s, (i : Int))) (digC s) (.inl false) (.inr ()) s.size (fun i hi => by
    have := bt_bound s i
    have := wrap_up (n := i) (by omega)
    grind [bursarref02_All.t3, digC]) (by simp [bursarref02_All.t3])
  unfold bursarref02_All.f bursarref02_All.l3
  rw [show ((0 : Int)) = ((0 : Nat) : Int) from rfl, h]
  unfold digitsB
  cases (List.range s.size).all (digC s) <;> rfl
theorem digits_at {s : ByteArray} (h : digitsB s = true) {i : Nat} (hi : i < s.size) : 48 ≤ bt s i ∧ bt s i ≤ 57 := by
  unfold digitsB at h
  rw [List.all_eq_true] at h
  simpa [digC] using h i (List.mem_range.2 hi)
/-- what a digit counts, from the left -/
def term (s : ByteArray) (j : Nat) : Int := bif (s.size - j) % 2 == 0 then (bif decide (2 * (bt s j - 48) > 9) then 2 * (bt s j - 48) - 9 else 2 * (bt s j - 48)) else bt s j - 48
def luhn (s : ByteArray) : Int := sumTo (term s) s.size
theorem term_bound {s : ByteArray} (h : digitsB s = true) {j : Nat} (hj : j < s.size) : 0 ≤ term s j ∧ term s j ≤ 9 := by
  have := digits_at h hj
  grind [term]
theorem digit_sum_is (s : ByteArray) (hs : s.size ≤ 576460752303423488) (hd : digitsB s = true) : digit_sum.f s = some (luhn s) := by
  have hb : ∀ n, n ≤ s.size → 0 ≤ sumTo (fun j => term s (s.size - 1 - j)) n ∧ sumTo (fun j => term s (s.size - 1 - j)) n ≤ 9 * n := fun n hn => sumTo_bound fun j hj => term_bound hd (by omega)
  have h := rounds_to (t := digit_sum.t5) (fun i => (s, (sumTo (fun j => term s (s.size - 1 - j)) i, ((s.size : Int), (i : Int))))) s.size (fun i hi => by
    have h1 := digits_at hd (i := s.size - 1 - i) (by omega)
    have h2 := wrap_up (n := i) (by omega)
    have h3 : IntKind.wrap .i64 ((s.size : Int) - 1) = (s.size : Int) - 1 := wrap_i64 (by omega) (by omega)
    have h4 : IntKind.wrap .i64 ((s.size : Int) - 1 - i) = ((s.size - 1 - i : Nat) : Int) := by rw [wrap_i64 (by omega) (by omega)]; omega
    have h5 : term s (s.size - 1 - i) = bif (i : Int).tmod 2 == 1 then 2 * (bt s (s.size - 1 - i) - 48) - 9 * ((bt s (s.size - 1 - i) - 48) / 5) else bt s (s.size - 1 - i) - 48 := by
      have e : ((i : Int).tmod 2 == 1) = ((s.size - (s.size - 1 - i)) % 2 == 0) := by
        rw [Int.tmod_eq_emod_of_nonneg (by omega)]
        rw [Bool.eq_iff_iff]; simp only [beq_iff_eq]; omega
      rw [e]
      unfold term
      cases ((s.size - (s.size - 1 - i)) % 2 == 0) with
      | false => rfl
      | true =>
        simp only [cond_true]
        by_cases hx : 2 * (bt s (s.size - 1 - i) - 48) > 9
        · rw [decide_eq_true hx]; simp only [cond_true]; omega
        · rw [decide_eq_false hx]; simp only [cond_false]; omega
    have hbi := hb i (by omega)
    have hbt := term_bound hd (j := s.size - 1 - i) (by omega)
    simp only [digit_sum.t5, h3, h4, Int.toNat_natCast, sumTo, h2]
    rw [h5] at hbt ⊢
    generalize sumTo (fun j => term s (s.size - 1 - j)) i = T at hbi ⊢
    generalize bt s (s.size - 1 - i) = d at h1 hbt ⊢
    have w1 : IntKind.wrap .u8 (d - 48) = d - 48 := by rw [wrap_u8]; omega
    have w2 : IntKind.wrap .i64 (d - 48) = d - 48 := wrap_i64 (by omega) (by omega)
    have w3 : IntKind.wrap .i64 (2 * (d - 48)) = 2 * (d - 48) := wrap_i64 (by omega) (by omega)
    have w4 : Int.tdiv (d - 48) 5 = (d - 48) / 5 := Int.tdiv_eq_ediv_of_nonneg (by omega)
    have w5 : IntKind.wrap .i64 ((d - 48) / 5) = (d - 48) / 5 := wrap_i64 (by omega) (by omega)
    have w6 : IntKind.wrap .i64 (9 * ((d - 48) / 5)) = 9 * ((d - 48) / 5) := wrap_i64 (by omega) (by omega)
    have w7 : IntKind.wrap .i64 (2 * (d - 48) - 9 * ((d - 48) / 5)) = 2 * (d - 48) - 9 * ((d - 48) / 5) := wrap_i64 (by omega) (by omega)
    have w8 : IntKind.wrap .i64 (T + (2 * (d - 48) - 9 * ((d - 48) / 5))) = T + (2 * (d - 48) - 9 * ((d - 48) / 5)) := wrap_i64 (by omega) (by omega)
    have w9 : IntKind.wrap .i64 (T + (d - 48)) = T + (d - 48) := wrap_i64 (by omega) (by omega)
    rw [w1, w2, w3, w4, w5, w6, w7, w8, w9]
    have g1 : decide ((i : Int) < (s.size : Int)) = true := decide_eq_true (by omega)
    have g2 : decide ((0 : Int) ≤ ((s.size - 1 - i : Nat) : Int)) = true := decide_eq_true (by omega)
    have g3 : decide (((s.size - 1 - i : Nat) : Int) < (s.size : Int)) = true := decide_eq_true (by omega)
    rw [g1, g2, g3]
    cases ((i : Int).tmod 2 == 1) <;> rfl)
  unfold digit_sum.f digit_sum.l5
  have h0 : (s, ((0 : Int), ((s.size : Int), (0 : Int)))) = (s, (sumTo (fun j => term s (s.size - 1 - j)) 0, ((s.size : Int), ((0 : Nat) : Int)))) := rfl
  rw [h0, h, sumTo_back, rounds_end (r := luhn s) (by simp [digit_sum.t5, luhn])]
  rfl
theorem digit_Sound_is (s : ByteArray) (hs : s.size ≤ 576460752303423488) : digit_Sound.f s = some (decide (2 ≤ s.size) && (digitsB s && (luhn s % 10 == 0))) := by
  have hl : digitsB s = true → 0 ≤ luhn s := fun hd => (sumTo_bound (f := term s) (b := 9) (n := s.size) fun j hj => term_bound hd hj).1
  unfold digit_Sound.f
  rw [digit_All_is s (by omega)]
  by_cases h2 : 2 ≤ s.size
  · rw [show decide ((s.size : Int) ≥ 2) = true from decide_eq_true (by omega), decide_eq_true h2]
    cases hd : digitsB s with
    | false => rfl
    | true => simp only [Option.bind_some, cond_true, digit_sum_is s hs hd, Bool.true_and, Int.tmod_eq_emod_of_nonneg (hl hd)]
  · rw [show decide ((s.size : Int) ≥ 2) = false from decide_eq_false (by omega), decide_eq_false h2]; rfl
theorem ref_Sound_is (s : ByteArray) (hs : s.size ≤ 576460752303423488) : bursarref02_Sound.f s = some (decide (2 ≤ s.size) && (digitsB s && (luhn s % 10 == 0))) := by
  unfold bursarref02_Sound.f
  rw [ref_All_is s (by omega)]
  by_cases h2 : 2 ≤ s.size
  · rw [show decide ((s.size : Int) < 2) = false from decide_eq_false (by omega), decide_eq_true h2]
    cases hd : digitsB s with
    | false => rfl
    | true =>
      have hb : ∀ n, n ≤ s.size → 0 ≤ sumTo (term s) n ∧ sumTo (term s) n ≤ 9 * n := fun n hn => sumTo_bound fun j hj => term_bound hd (by omega)
      have h := rounds_to (t := bursarref02_Sound.t7) (fun i => (s, (sumTo (term s) i, (i : Int)))) s.size (fun i hi => by
        have h1 := digits_at hd (i := i) hi
        have h2 := wrap_up (n := i) (by omega)
        have h3 : IntKind.wrap .i64 ((s.size : Int) - i) = ((s.size - i : Nat) : Int) := by rw [wrap_i64 (by omega) (by omega)]; omega
        have h5 : ((((s.size - i : Nat) : Int).tmod 2) == 0) = ((s.size - i) % 2 == 0) := by
          rw [Int.tmod_eq_emod_of_nonneg (by omega), Bool.eq_iff_iff]; simp only [beq_iff_eq]; omega
        have hbi := hb i (by omega)
        simp only [bursarref02_Sound.t7, h3, h5, Int.toNat_natCast, sumTo, h2, term]
        generalize sumTo (term s) i = T at hbi ⊢
        have w1 : IntKind.wrap .i64 (bt s i) = bt s i := wrap_i64 (by omega) (by omega)
        have w2 : IntKind.wrap .i64 (bt s i - 48) = bt s i - 48 := wrap_i64 (by omega) (by omega)
        have w3 : IntKind.wrap .i64 (2 * (bt s i - 48)) = 2 * (bt s i - 48) := wrap_i64 (by omega) (by omega)
        have w7 : IntKind.wrap .i64 (2 * (bt s i - 48) - 9) = 2 * (bt s i - 48) - 9 := wrap_i64 (by omega) (by omega)
        have w8 : IntKind.wrap .i64 (T + (2 * (bt s i - 48) - 9)) = T + (2 * (bt s i - 48) - 9) := wrap_i64 (by omega) (by omega)
        have w9 : IntKind.wrap .i64 (T + (bt s i - 48)) = T + (bt s i - 48) := wrap_i64 (by omega) (by omega)
        have w10 : IntKind.wrap .i64 (T + 2 * (bt s i - 48)) = T + 2 * (bt s i - 48) := wrap_i64 (by omega) (by omega)
        simp only [w1, w2, w3, w7, w8, w9, w10]
        have g1 : decide ((i : Int) < (s.size : Int)) = true := decide_eq_true (by omega)
        have g2 : decide ((0 : Int) ≤ (i : Int)) = true := decide_eq_true (by omega)
        simp only [g1, g2, Bool.and_self, cond_true]
        cases ((s.size - i) % 2 == 0)
        · rfl
        · cases decide (2 * (bt s i - 48) > 9) <;> rfl)
      have h0 : (s, ((0 : Int), (0 : Int))) = (s, (sumTo (term s) 0, ((0 : Nat) : Int))) := rfl
      have hl := (hb s.size (Nat.le_refl _)).1
      unfold bursarref02_Sound.l7
      simp only [Option.bind_some, cond_true, cond_false, Bool.not_true, Bool.true_and]
      rw [h0, h, rounds_end (r := luhn s) (by simp [bursarref02_Sound.t7, luhn])]
      simp only [Option.bind_some, Int.tmod_eq_emod_of_nonneg (show 0 ≤ luhn s from hl)]
  · rw [show decide ((s.size : Int) < 2) = true from decide_eq_true (by omega), decide_eq_false h2]; rfl
end Go.Proofs.Ytloambokbipnjaa
end
section
/- The Go function hold.until, as a Lean function, and that it is this one. Written by a program of this session. -/
set_option linter.unusedVariables false
set_option maxRecDepth 100000
namespace Go.Proofs.Ytloambokbipnjaa
open Go Go.Fw
abbrev hold_until.As : Shs := (.cons (.x (.i .i64)) .nil)
abbrev hold_until.m : Back := [(false, .b)]
noncomputable abbrev hold_until.H : HK := hk P G0 E0 [] noLoops 4
theorem hold_until.hok : HKOK P hold_until.H := hk_ok e0_ok (rows_ok (ws := []) trivial) (fun g n => noLoops_ok g n) 4
noncomputable def hold_until.f (a : Int) : Option Bool := (bif (decide ((a ≥ (0 : Int)))) then (some (decide ((a ≤ (2147483647 : Int))))) else (some false))
theorem hold_until.ok : ∀ a : Vals hold_until.As.tys, fnK P hold_until.H (lp []) 34 hold_until.As hold_until.m a some = hold_until.f a := fun a => by kernel_rfl
noncomputable abbrev hold_until.row : Row := fnRow 34 hold_until.As hold_until.m hold_until.f
theorem hold_until.row_ok : RowOK P G0 hold_until.row := row_told hold_until.hok (lp_of (l := []) trivial) (fun _ => rfl) hold_until.ok
end Go.Proofs.Ytloambokbipnjaa
end
section
/- The Go function hold.Ref, as a Lean function, and that it is this one. Written by a program of this session. -/
set_option linter.unusedVariables false
set_option maxRecDepth 100000
namespace Go.Proofs.Ytloambokbipnjaa
open Go Go.Fw
abbrev hold_Ref.As : Shs := (.cons (.x .s) .nil)
abbrev hold_Ref.m : Back := [(false, .b)]
noncomputable abbrev hold_Ref.H : HK := hk P G0 E0 [] noLoops 4
theorem hold_Ref.hok : HKOK P hold_Ref.H := hk_ok e0_ok (rows_ok (ws := []) trivial) (fun g n => noLoops_ok g n) 4
abbrev hold_Ref.sh3 : SSh := ⟨[(0, (.x .s)), (6, (.x (.i .i64))), (7, (.x (.i .i64)))], []⟩
abbrev hold_Ref.os3 : PEnds := [(.ret, ⟨[(2, (.x .b))], []⟩), ((.exit 0), ⟨[(0, (.x .s))], []⟩)]
noncomputable def hold_Ref.t3 (s : (ByteArray × (Int × Int))) : Option ((ByteArray × (Int × Int)) ⊕ (Bool ⊕ ByteArray)) := (bif (decide ((s.2.2 < s.2.1))) then (bif ((decide (((0 : Int) ≤ s.2.2))) && (decide ((s.2.2 < (s.1.size : Int))))) then (bif (decide (((bt s.1 (Int.toNat s.2.2)) < (48 : Int)))) then (bif (decide (((bt s.1 (Int.toNat s.2.2)) < (65 : Int)))) then (some (.inr (.inl false))) else (bif (decide (((bt s.1 (Int.toNat s.2.2)) > (90 : Int)))) then (some (.inr (.inl false))) else (some (.inl (s.1, (s.2.1, (IntKind.wrap .i64 (s.2.2 + (1 : Int))))))))) else (bif (decide (((bt s.1 (Int.toNat s.2.2)) > (57 : Int)))) then (bif (decide (((bt s.1 (Int.toNat s.2.2)) < (65 : Int)))) then (some (.inr (.inl false))) else (bif (decide (((bt s.1 (Int.toNat s.2.2)) > (90 : Int)))) then (some (.inr (.inl false))) else (some (.inl (s.1, (s.2.1, (IntKind.wrap .i64 (s.2.2 + (1 : Int))))))))) else (some (.inl (s.1, (s.2.1, (IntKind.wrap .i64 (s.2.2 + (1 : Int))))))))) else none) else (some (.inr (.inr s.1))))
theorem hold_Ref.t3_ok : ∀ s : Vals hold_Ref.sh3.tys, turnK P hold_Ref.H (lp []) (bodyAt (codeOf P 42) 3) 0 hold_Ref.sh3 hold_Ref.os3 s some = hold_Ref.t3 s := fun s => by kernel_rfl
noncomputable def hold_Ref.l3 : (ByteArray × (Int × Int)) → Option (Bool ⊕ ByteArray) := rounds hold_Ref.t3
noncomputable def hold_Ref.f (a : ByteArray) : Option Bool := (((hold_Ref.l3 (a, ((a.size : Int), (0 : Int))))).bind fun (x1 : (Bool ⊕ ByteArray)) => (match x1 with | .inl x2 => (some x2) | .inr x2 => (some ((x2.size : Int) == (12 : Int)))))
theorem hold_Ref.ok : ∀ a : Vals hold_Ref.As.tys, fnK P hold_Ref.H (lp [(3, NodeT.summ ⟨hold_Ref.sh3, hold_Ref.os3, hold_Ref.l3⟩ 0)]) 42 hold_Ref.As hold_Ref.m a some = hold_Ref.f a := fun a => by kernel_rfl
noncomputable abbrev hold_Ref.row : Row := fnRow 42 hold_Ref.As hold_Ref.m hold_Ref.f
theorem hold_Ref.row_ok : RowOK P G0 hold_Ref.row := row_told hold_Ref.hok (lp_of (l := [(3, NodeT.summ ⟨hold_Ref.sh3, hold_Ref.os3, hold_Ref.l3⟩ 0)]) ⟨loop_sum hold_Ref.hok (by kernel_rfl) (by kernel_rfl) (l := []) trivial hold_Ref.sh3 hold_Ref.os3 (by kernel_rfl) hold_Ref.t3 hold_Ref.t3_ok, trivial⟩) (fun _ => rfl) hold_Ref.ok
end Go.Proofs.Ytloambokbipnjaa
end
section
/- The Go function chart.May, as a Lean function, and that it is this one. Written by a program of this session. -/
set_option linter.unusedVariables false
set_option maxRecDepth 100000
namespace Go.Proofs.Ytloambokbipnjaa
open Go Go.Fw
abbrev chart_May.As : Shs := (.cons (.x T_api_Account) .nil)
abbrev chart_May.m : Back := [(false, .b)]
noncomputable abbrev chart_May.H : HK := hk P G0 E0 [digit_Sound.row, digit_All.row] noLoops 4
theorem chart_May.hok : HKOK P chart_May.H := hk_ok e0_ok (rows_ok (ws := [digit_Sound.row, digit_All.row]) ⟨digit_Sound.row_ok, ⟨digit_All.row_ok, trivial⟩⟩) (fun g n => noLoops_ok g n) 4
noncomputable def chart_May.f (a : (Int × ByteArray)) : Option Bool := (bif (a.1 == (1 : Int)) then (bif ((a.2.size : Int) == (16 : Int)) then (((digit_Sound.f a.2)).bind fun (x1 : Bool) => (some x1)) else (some false)) else (bif (a.1 == (2 : Int)) then (bif ((a.2.size : Int) == (6 : Int)) then (((digit_All.f a.2)).bind fun (x1 : Bool) => (some x1)) else (some false)) else (bif (a.1 == (3 : Int)) then (bif (a.1 == (3 : Int)) then (some ((ByteArray.toList a.2) == (ByteArray.toList (bs [])))) else (some false)) else (bif (a.1 == (4 : Int)) then (some ((ByteArray.toList a.2) == (ByteArray.toList (bs [])))) else (some false)))))
theorem chart_May.ok : ∀ a : Vals chart_May.As.tys, fnK P chart_May.H (lp []) 43 chart_May.As chart_May.m a some = chart_May.f a := fun a => by kernel_rfl
noncomputable abbrev chart_May.row : Row := fnRow 43 chart_May.As chart_May.m chart_May.f
theorem chart_May.row_ok : RowOK P G0 chart_May.row := row_told chart_May.hok (lp_of (l := []) trivial) (fun _ => rfl) chart_May.ok
end Go.Proofs.Ytloambokbipnjaa
end
section
/- The Go function hold.May, as a Lean function, and that it is this one. Written by a program of this session. -/
set_option linter.unusedVariables false
set_option maxRecDepth 100000
namespace Go.Proofs.Ytloambokbipnjaa
open Go Go.Fw
abbrev hold_May.As : Shs := (.cons (.x T_api_Hold) .nil)
abbrev hold_May.m : Back := [(false, .b)]
noncomputable abbrev hold_May.H : HK := hk P G0 E0 [hold_until.row, hold_Ref.row, chart_May.row] noLoops 4
theorem hold_May.hok : HKOK P hold_May.H := hk_ok e0_ok (rows_ok (ws := [hold_until.row, hold_Ref.row, chart_May.row]) ⟨hold_until.row_ok, ⟨hold_Ref.row_ok, ⟨chart_May.row_ok, trivial⟩⟩⟩) (fun g n => noLoops_ok g n) 4
noncomputable def hold_May.f (a : (ByteArray × (ByteArray × (ByteArray × (Int × (Int × (Int × Bool))))))) : Option Bool := (((hold_Ref.f a.1)).bind fun (x1 : Bool) => (bif (!x1) then (some false) else (((chart_May.f ((1 : Int), a.2.2.1))).bind fun (x2 : Bool) => (bif (!x2) then (some false) else (((chart_May.f ((2 : Int), a.2.1))).bind fun (x3 : Bool) => (bif (!x3) then (some false) else (((hold_until.f a.2.2.2.2.2.1)).bind fun (x4 : Bool) => (bif (!x4) then (some false) else (bif (decide ((a.2.2.2.2.1 ≥ (0 : Int)))) then (bif (decide ((a.2.2.2.2.1 ≤ a.2.2.2.1))) then (bif (!a.2.2.2.2.2.2) then (some true) else (some (decide ((a.2.2.2.2.1 < a.2.2.2.1))))) else (some false)) else (some false))))))))))
theorem hold_May.ok : ∀ a : Vals hold_May.As.tys, fnK P hold_May.H (lp []) 17 hold_May.As hold_May.m a some = hold_May.f a := fun a => by kernel_rfl
noncomputable abbrev hold_May.row : Row := fnRow 17 hold_May.As hold_May.m hold_May.f
theorem hold_May.row_ok : RowOK P G0 hold_May.row := row_told hold_May.hok (lp_of (l := []) trivial) (fun _ => rfl) hold_May.ok
end Go.Proofs.Ytloambokbipnjaa
end
section
/- The Go function hold.Left, as a Lean function, and that it is this one. Written by a program of this session. -/
set_option linter.unusedVariables false
set_option maxRecDepth 100000
namespace Go.Proofs.Ytloambokbipnjaa
open Go Go.Fw
abbrev hold_Left.As : Shs := (.cons (.x T_api_Hold) .nil)
abbrev hold_Left.m : Back := [(false, (.i .i64))]
noncomputable abbrev hold_Left.H : HK := hk P G0 E0 [hold_May.row] noLoops 4
theorem hold_Left.hok : HKOK P hold_Left.H := hk_ok e0_ok (rows_ok (ws := [hold_May.row]) ⟨hold_May.row_ok, trivial⟩) (fun g n => noLoops_ok g n) 4
noncomputable def hold_Left.f (a : (ByteArray × (ByteArray × (ByteArray × (Int × (Int × (Int × Bool))))))) : Option Int := (((hold_May.f a)).bind fun (x1 : Bool) => (bif (!x1) then (some (0 : Int)) else (bif (!a.2.2.2.2.2.2) then (some (0 : Int)) else (some (IntKind.wrap .i64 (a.2.2.2.1 - a.2.2.2.2.1))))))
theorem hold_Left.ok : ∀ a : Vals hold_Left.As.tys, fnK P hold_Left.H (lp []) 18 hold_Left.As hold_Left.m a some = hold_Left.f a := fun a => by kernel_rfl
noncomputable abbrev hold_Left.row : Row := fnRow 18 hold_Left.As hold_Left.m hold_Left.f
theorem hold_Left.row_ok : RowOK P G0 hold_Left.row := row_told hold_Left.hok (lp_of (l := []) trivial) (fun _ => rfl) hold_Left.ok
end Go.Proofs.Ytloambokbipnjaa
end
section
/- The Go function bursarref11.Name, as a Lean function, and that it is this one. Written by a program of this session. -/
set_option linter.unusedVariables false
set_option maxRecDepth 100000
namespace Go.Proofs.Ytloambokbipnjaa
open Go Go.Fw
abbrev bursarref11_Name.As : Shs := (.cons (.x T_api_Account) .nil)
abbrev bursarref11_Name.m : Back := [(false, .s), (false, .b)]
noncomputable abbrev bursarref11_Name.H : HK := hk P G0 E0 [bursarref02_Sound.row, bursarref02_All.row] noLoops 4
theorem bursarref11_Name.hok : HKOK P bursarref11_Name.H := hk_ok e0_ok (rows_ok (ws := [bursarref02_Sound.row, bursarref02_All.row]) ⟨bursarref02_Sound.row_ok, ⟨bursarref02_All.row_ok, trivial⟩⟩) (fun g n => noLoops_ok g n) 4
noncomputable def bursarref11_Name.f (a : (Int × ByteArray)) : Option (ByteArray × Bool) := (bif (a.1 == (1 : Int)) then (bif ((a.2.size : Int) == (16 : Int)) then (((bursarref02_Sound.f a.2)).bind fun (x1 : Bool) => (bif x1 then (bif (Nat.ble (1 + a.2.size) 9223372036854775807) then (some (((bs [67]) ++ a.2), true)) else none) else (bif (a.1 == (2 : Int)) then (bif ((a.2.size : Int) == (6 : Int)) then (((bursarref02_All.f a.2)).bind fun (x2 : Bool) => (bif x2 then (bif (Nat.ble (1 + a.2.size) 9223372036854775807) then (some (((bs [65]) ++ a.2), true)) else none) else (bif (a.1 == (3 : Int)) then (bif ((ByteArray.toList a.2) == (ByteArray.toList (bs []))) then (some ((bs [72]), true)) else (bif (a.1 == (4 : Int)) then (bif ((ByteArray.toList a.2) == (ByteArray.toList (bs []))) then (some ((bs [68]), true)) else (some ((bs []), false))) else (some ((bs []), false)))) else (bif (a.1 == (4 : Int)) then (bif ((ByteArray.toList a.2) == (ByteArray.toList (bs []))) then (some ((bs [68]), true)) else (some ((bs []), false))) else (some ((bs []), false)))))) else (bif (a.1 == (3 : Int)) then (bif ((ByteArray.toList a.2) == (ByteArray.toList (bs []))) then (some ((bs [72]), true)) else (bif (a.1 == (4 : Int)) then (bif ((ByteArray.toList a.2) == (ByteArray.toList (bs []))) then (some ((bs [68]), true)) else (some ((bs []), false))) else (some ((bs []), false)))) else (bif (a.1 == (4 : Int)) then (bif ((ByteArray.toList a.2) == (ByteArray.toList (bs []))) then (some ((bs [68]), true)) else (some ((bs []), false))) else (some ((bs []), false))))) else (bif (a.1 == (3 : Int)) then (bif ((ByteArray.toList a.2) == (ByteArray.toList (bs []))) then (some ((bs [72]), true)) else (bif (a.1 == (4 : Int)) then (bif ((ByteArray.toList a.2) == (ByteArray.toList (bs []))) then (some ((bs [68]), true)) else (some ((bs []), false))) else (some ((bs []), false)))) else (bif (a.1 == (4 : Int)) then (bif ((ByteArray.toList a.2) == (ByteArray.toList (bs []))) then (some ((bs [68]), true)) else (some ((bs []), false))) else (some ((bs []), false))))))) else (bif (a.1 == (2 : Int)) then (bif ((a.2.size : Int) == (6 : Int)) then (((bursarref02_All.f a.2)).bind fun (x1 : Bool) => (bif x1 then (bif (Nat.ble (1 + a.2.size) 9223372036854775807) then (some (((bs [65]) ++ a.2), true)) else none) else (bif (a.1 == (3 : Int)) then (bif ((ByteArray.toList a.2) == (ByteArray.toList (bs []))) then (some ((bs [72]), true)) else (bif (a.1 == (4 : Int)) then (bif ((ByteArray.toList a.2) == (ByteArray.toList (bs []))) then (some ((bs [68]), true)) else (some ((bs []), false))) else (some ((bs []), false)))) else (bif (a.1 == (4 : Int)) then (bif ((ByteArray.toList a.2) == (ByteArray.toList (bs []))) then (some ((bs [68]), true)) else (some ((bs []), false))) else (some ((bs []), false)))))) else (bif (a.1 == (3 : Int)) then (bif ((ByteArray.toList a.2) == (ByteArray.toList (bs []))) then (some ((bs [72]), true)) else (bif (a.1 == (4 : Int)) then (bif ((ByteArray.toList a.2) == (ByteArray.toList (bs []))) then (some ((bs [68]), true)) else (some ((bs []), false))) else (some ((bs []), false)))) else (bif (a.1 == (4 : Int)) then (bif ((ByteArray.toList a.2) == (ByteArray.toList (bs []))) then (some ((bs [68]), true)) else (some ((bs []), false))) else (some ((bs []), false))))) else (bif (a.1 == (3 : Int)) then (bif ((ByteArray.toList a.2) == (ByteArray.toList (bs []))) then (some ((bs [72]), true)) else (bif (a.1 == (4 : Int)) then (bif ((ByteArray.toList a.2) == (ByteArray.toList (bs []))) then (some ((bs [68]), true)) else (some ((bs []), false))) else (some ((bs []), false)))) else (bif (a.1 == (4 : Int)) then (bif ((ByteArray.toList a.2) == (ByteArray.toList (bs []))) then (some ((bs [68]), true)) else (some ((bs []), false))) else (some ((bs []), false)))))) else (bif (a.1 == (2 : Int)) then (bif ((a.2.size : Int) == (6 : Int)) then (((bursarref02_All.f a.2)).bind fun (x1 : Bool) => (bif x1 then (bif (Nat.ble (1 + a.2.size) 9223372036854775807) then (some (((bs [65]) ++ a.2), true)) else none) else (bif (a.1 == (3 : Int)) then (bif ((ByteArray.toList a.2) == (ByteArray.toList (bs []))) then (some ((bs [72]), true)) else (bif (a.1 == (4 : Int)) then (bif ((ByteArray.toList a.2) == (ByteArray.toList (bs []))) then (some ((bs [68]), true)) else (some ((bs []), false))) else (some ((bs []), false)))) else (bif (a.1 == (4 : Int)) then (bif ((ByteArray.toList a.2) == (ByteArray.toList (bs []))) then (some ((bs [68]), true)) else (some ((bs []), false))) else (some ((bs []), false)))))) else (bif (a.1 == (3 : Int)) then (bif ((ByteArray.toList a.2) == (ByteArray.toList (bs []))) then (some ((bs [72]), true)) else (bif (a.1 == (4 : Int)) then (bif ((ByteArray.toList a.2) == (ByteArray.toList (bs []))) then (some ((bs [68]), true)) else (some ((bs []), false))) else (some ((bs []), false)))) else (bif (a.1 == (4 : Int)) then (bif ((ByteArray.toList a.2) == (ByteArray.toList (bs []))) then (some ((bs [68]), true)) else (some ((bs []), false))) else (some ((bs []), false))))) else (bif (a.1 == (3 : Int)) then (bif ((ByteArray.toList a.2) == (ByteArray.toList (bs []))) then (some ((bs [72]), true)) else (bif (a.1 == (4 : Int)) then (bif ((ByteArray.toList a.2) == (ByteArray.toList (bs []))) then (some ((bs [68]), true)) else (some ((bs []), false))) else (some ((bs []), false)))) else (bif (a.1 == (4 : Int)) then (bif ((ByteArray.toList a.2) == (ByteArray.toList (bs []))) then (some ((bs [68]), true)) else (some ((bs []), false))) else (some ((bs []), false))))))
theorem bursarref11_Name.ok : ∀ a : Vals bursarref11_Name.As.tys, fnK P bursarref11_Name.H (lp []) 49 bursarref11_Name.As bursarref11_Name.m a some = bursarref11_Name.f a := fun a => by kernel_rfl
noncomputable abbrev bursarref11_Name.row : Row := fnRow 49 bursarref11_Name.As bursarref11_Name.m bursarref11_Name.f
theorem bursarref11_Name.row_ok : RowOK P G0 bursarref11_Name.row := row_told bursarref11_Name.hok (lp_of (l := []) trivial) (fun _ => rfl) bursarref11_Name.ok
end Go.Proofs.Ytloambokbipnjaa
end
section
/- The Go function bursarref14.Ref, as a Lean function, and that it is this one. Written by a program of this session. -/
set_option linter.unusedVariables false
set_option maxRecDepth 100000
namespace Go.Proofs.Ytloambokbipnjaa
open Go Go.Fw
abbrev bursarref14_Ref.As : Shs := (.cons (.x .s) .nil)
abbrev bursarref14_Ref.m : Back := [(false, .b)]
noncomputable abbrev bursarref14_Ref.H : HK := hk P G0 E0 [] noLoops 4
theorem bursarref14_Ref.hok : HKOK P bursarref14_Ref.H := hk_ok e0_ok (rows_ok (ws := []) trivial) (fun g n => noLoops_ok g n) 4
abbrev bursarref14_Ref.sh6 : SSh := ⟨[(0, (.x .s)), (3, (.x (.i .i64)))], []⟩
abbrev bursarref14_Ref.os6 : PEnds := [(.ret, ⟨[(2, (.x .b))], []⟩), ((.exit 0), ⟨[], []⟩)]
noncomputable def bursarref14_Ref.t6 (s : (ByteArray × Int)) : Option ((ByteArray × Int) ⊕ (Bool ⊕ Unit)) := (bif (decide ((s.2 < (12 : Int)))) then (bif ((decide (((0 : Int) ≤ s.2))) && (decide ((s.2 < (s.1.size : Int))))) then (bif (decide (((48 : Int) ≤ (bt s.1 (Int.toNat s.2))))) then (bif ((decide (((0 : Int) ≤ s.2))) && (decide ((s.2 < (s.1.size : Int))))) then (bif (!(decide (((bt s.1 (Int.toNat s.2)) ≤ (57 : Int))))) then (bif ((decide (((0 : Int) ≤ s.2))) && (decide ((s.2 < (s.1.size : Int))))) then (bif (decide (((65 : Int) ≤ (bt s.1 (Int.toNat s.2))))) then (bif ((decide (((0 : Int) ≤ s.2))) && (decide ((s.2 < (s.1.size : Int))))) then (bif (!(decide (((bt s.1 (Int.toNat s.2)) ≤ (90 : Int))))) then (some (.inr (.inl false))) else (some (.inl (s.1, (IntKind.wrap .i64 (s.2 + (1 : Int))))))) else none) else (some (.inr (.inl false)))) else none) else (some (.inl (s.1, (IntKind.wrap .i64 (s.2 + (1 : Int))))))) else none) else (bif ((decide (((0 : Int) ≤ s.2))) && (decide ((s.2 < (s.1.size : Int))))) then (bif (decide (((65 : Int) ≤ (bt s.1 (Int.toNat s.2))))) then (bif ((decide (((0 : Int) ≤ s.2))) && (decide ((s.2 < (s.1.size : Int))))) then (bif (!(decide (((bt s.1 (Int.toNat s.2)) ≤ (90 : Int))))) then (some (.inr (.inl false))) else (some (.inl (s.1, (IntKind.wrap .i64 (s.2 + (1 : Int))))))) else none) else (some (.inr (.inl false)))) else none)) else none) else (some (.inr (.inr ()))))
theorem bursarref14_Ref.t6_ok : ∀ s : Vals bursarref14_Ref.sh6.tys, turnK P bursarref14_Ref.H (lp []) (bodyAt (codeOf P 50) 6) 0 bursarref14_Ref.sh6 bursarref14_Ref.os6 s some = bursarref14_Ref.t6 s := fun s => by kernel_rfl
noncomputable def bursarref14_Ref.l6 : (ByteArray × Int) → Option (Bool ⊕ Unit) := rounds bursarref14_Ref.t6
noncomputable def bursarref14_Ref.f (a : ByteArray) : Option Bool := (bif ((a.size : Int) != (12 : Int)) then (some false) else (((bursarref14_Ref.l6 (a, (0 : Int)))).bind fun (x1 : (Bool ⊕ PUnit)) => (match x1 with | .inl x2 => (some x2) | .inr x2 => (some true))))
theorem bursarref14_Ref.ok : ∀ a : Vals bursarref14_Ref.As.tys, fnK P bursarref14_Ref.H (lp [(6, NodeT.summ ⟨bursarref14_Ref.sh6, bursarref14_Ref.os6, bursarref14_Ref.l6⟩ 0)]) 50 bursarref14_Ref.As bursarref14_Ref.m a some = bursarref14_Ref.f a := fun a => by kernel_rfl
noncomputable abbrev bursarref14_Ref.row : Row := fnRow 50 bursarref14_Ref.As bursarref14_Ref.m bursarref14_Ref.f
theorem bursarref14_Ref.row_ok : RowOK P G0 bursarref14_Ref.row := row_told bursarref14_Ref.hok (lp_of (l := [(6, NodeT.summ ⟨bursarref14_Ref.sh6, bursarref14_Ref.os6, bursarref14_Ref.l6⟩ 0)]) ⟨loop_sum bursarref14_Ref.hok (by kernel_rfl) (by kernel_rfl) (l := []) trivial bursarref14_Ref.sh6 bursarref14_Ref.os6 (by kernel_rfl) bursarref14_Ref.t6 bursarref14_Ref.t6_ok, trivial⟩) (fun _ => rfl) bursarref14_Ref.ok
end Go.Proofs.Ytloambokbipnjaa
end
section
/- The Go function bursarref14.May, as a Lean function, and that it is this one. Written by a program of this session. -/
set_option linter.unusedVariables false
set_option maxRecDepth 100000
namespace Go.Proofs.Ytloambokbipnjaa
open Go Go.Fw
abbrev bursarref14_May.As : Shs := (.cons (.x T_api_Hold) .nil)
abbrev bursarref14_May.m : Back := [(false, .b)]
noncomputable abbrev bursarref14_May.H : HK := hk P G0 E0 [bursarref11_Name.row, bursarref14_Ref.row] noLoops 4
theorem bursarref14_May.hok : HKOK P bursarref14_May.H := hk_ok e0_ok (rows_ok (ws := [bursarref11_Name.row, bursarref14_Ref.row]) ⟨bursarref11_Name.row_ok, ⟨bursarref14_Ref.row_ok, trivial⟩⟩) (fun g n => noLoops_ok g n) 4
noncomputable def bursarref14_May.f (a : (ByteArray × (ByteArray × (ByteArray × (Int × (Int × (Int × Bool))))))) : Option Bool := (((bursarref11_Name.f ((1 : Int), a.2.2.1))).bind fun (x1 : (ByteArray × Bool)) => (((bursarref11_Name.f ((2 : Int), a.2.1))).bind fun (x2 : (ByteArray × Bool)) => (((bursarref14_Ref.f a.1)).bind fun (x3 : Bool) => (bif x3 then (bif x1.2 then (bif x2.2 then (bif (decide (((0 : Int) ≤ a.2.2.2.2.1))) then (bif (decide ((a.2.2.2.2.1 ≤ a.2.2.2.1))) then (bif (decide (((0 : Int) ≤ a.2.2.2.2.2.1))) then (bif (decide ((a.2.2.2.2.2.1 ≤ (2147483647 : Int)))) then (bif (!a.2.2.2.2.2.2) then (some true) else (some (decide ((a.2.2.2.1 > a.2.2.2.2.1))))) else (some false)) else (some false)) else (some false)) else (some false)) else (some false)) else (some false)) else (some false)))))
theorem bursarref14_May.ok : ∀ a : Vals bursarref14_May.As.tys, fnK P bursarref14_May.H (lp []) 39 bursarref14_May.As bursarref14_May.m a some = bursarref14_May.f a := fun a => by kernel_rfl
noncomputable abbrev bursarref14_May.row : Row := fnRow 39 bursarref14_May.As bursarref14_May.m bursarref14_May.f
theorem bursarref14_May.row_ok : RowOK P G0 bursarref14_May.row := row_told bursarref14_May.hok (lp_of (l := []) trivial) (fun _ => rfl) bursarref14_May.ok
end Go.Proofs.Ytloambokbipnjaa
end
section
/- The Go function bursarref14.Left, as a Lean function, and that it is this one. Written by a program of this session. -/
set_option linter.unusedVariables false
set_option maxRecDepth 100000
namespace Go.Proofs.Ytloambokbipnjaa
open Go Go.Fw
abbrev bursarref14_Left.As : Shs := (.cons (.x T_api_Hold) .nil)
abbrev bursarref14_Left.m : Back := [(false, (.i .i64))]
noncomputable abbrev bursarref14_Left.H : HK := hk P G0 E0 [] noLoops 4
theorem bursarref14_Left.hok : HKOK P bursarref14_Left.H := hk_ok e0_ok (rows_ok (ws := []) trivial) (fun g n => noLoops_ok g n) 4
noncomputable def bursarref14_Left.f (a : (ByteArray × (ByteArray × (ByteArray × (Int × (Int × (Int × Bool))))))) : Option Int := (bif a.2.2.2.2.2.2 then (some (IntKind.wrap .i64 (a.2.2.2.1 - a.2.2.2.2.1))) else (some (0 : Int)))
theorem bursarref14_Left.ok : ∀ a : Vals bursarref14_Left.As.tys, fnK P bursarref14_Left.H (lp []) 40 bursarref14_Left.As bursarref14_Left.m a some = bursarref14_Left.f a := fun a => by kernel_rfl
noncomputable abbrev bursarref14_Left.row : Row := fnRow 40 bursarref14_Left.As bursarref14_Left.m bursarref14_Left.f
theorem bursarref14_Left.row_ok : RowOK P G0 bursarref14_Left.row := row_told bursarref14_Left.hok (lp_of (l := []) trivial) (fun _ => rfl) bursarref14_Left.ok
end Go.Proofs.Ytloambokbipnjaa
end
section
/- References, cards, acquirers, and which holds may be: what the code and the document's answer compute. By this session. -/
set_option linter.unusedVariables false
set_option linter.unusedSimpArgs false
namespace Go.Proofs.Ytloambokbipnjaa
open Go Go.Fw
def refC (s : ByteArray) (i : Nat) : Bool := (decide (48 ≤ bt s i) && decide (bt s i ≤ 57)) || (decide (65 ≤ bt s i) && decide (bt s i ≤ 90))
def refB (s : ByteArray) : Bool := s.size == 12 && (List.range s.size).all (refC s)
theorem hold_Ref_is (s : ByteArray) (hs : s.size ≤ 4611686018427387904) : hold_Ref.f s = some (refB s) := by
  have h := rounds_all (t := hold_Ref.t3) (fun i => (s, ((s.size : Int), (i : Int)))) (refC s) (.inl false) (.inr s) s.size (fun i hi => by
    have := bt_bound s i
    have := wrap_up (n := i) (by omega)
    grind [hold_Ref.t3, refC]) (by simp [hold_Ref.t3])
  unfold hold_Ref.f hold_Ref.l3
  rw [show ((0 : Int)) = ((0 : Nat) : Int) from rfl, h]
  unfold refB
  have e : ((s.size : Int) == 12) = (s.size == 12) := by rw [Bool.eq_iff_iff]; simp only [beq_iff_eq]; omega
  cases (List.range s.size).all (refC s) <;> simp [e]
theorem ref_Ref_is (s : ByteArray) : bursarref14_Ref.f s = some (refB s) := by
  unfold bursarref14_Ref.f refB
  by_cases hz : s.size = 12
  · have h := rounds_all (t := bursarref14_Ref.t6) (fun i => (s, (i : Int))) (refC s) (.inl false) (.inr ()) s.size (fun i hi => by
      have := bt_bound s i
      have := wrap_up (n := i) (by omega)
      grind [bursarref14_Ref.t6, refC]) (by simp [bursarref14_Ref.t6, hz])
    have e : ((s.size : Int) != 12) = false := by simp; omega
    have e2 : (s.size == 12) = true := by simp [hz]
    rw [e, e2]
    unfold bursarref14_Ref.l6
    rw [show ((0 : Int)) = ((0 : Nat) : Int) from rfl, h]
    cases (List.range s.size).all (refC s) <;> rfl
  · have e : ((s.size : Int) != 12) = true := by simp; omega
    have e2 : (s.size == 12) = false := by simp [hz]
    rw [e, e2]; rfl
def soundB (s : ByteArray) : Bool := decide (2 ≤ s.size) && (digitsB s && (luhn s % 10 == 0))
def cardB (s : ByteArray) : Bool := s.size == 16 && soundB s
def acqB (s : ByteArray) : Bool := s.size == 6 && digitsB s
theorem size_is {s : ByteArray} (n : Nat) : ((s.size : Int) == (n : Int)) = (s.size == n) := by rw [Bool.eq_iff_iff]; simp only [beq_iff_eq]; omega
theorem card_is (s : ByteArray) : chart_May.f (1, s) = some (cardB s) := by
  have e := size_is (s := s) 16
  unfold chart_May.f cardB
  by_cases h : s.size = 16
  · have := digit_Sound_is s (by omega)
    rw [show ((s.size : Int) == 16) = true from by simp; omega, show (s.size == 16) = true from by simp [h]]
    simp only [this, beq_self_eq_true, cond_true, Option.bind_some, Bool.true_and]
    rfl
  · rw [show ((s.size : Int) == 16) = false from by simp; omega, show (s.size == 16) = false from by simp [h]]
    rfl
theorem acq_is (s : ByteArray) : chart_May.f (2, s) = some (acqB s) := by
  unfold chart_May.f acqB
  by_cases h : s.size = 6
  · have := digit_All_is s (by omega)
    rw [show ((s.size : Int) == 6) = true from by simp; omega, show (s.size == 6) = true from by simp [h]]
    simp [this]
  · rw [show ((s.size : Int) == 6) = false from by simp; omega, show (s.size == 6) = false from by simp [h]]
    rfl
theorem ref_card_is (s : ByteArray) : ∃ t, bursarref11_Name.f (1, s) = some (t, cardB s) := by
  unfold bursarref11_Name.f cardB
  by_cases h : s.size = 16
  · have := ref_Sound_is s (by omega)
    have e : bursarref02_Sound.f s = some (soundB s) := this
    have b1 : Nat.ble (1 + s.size) 9223372036854775807 = true := by rw [h]; rfl
    rw [e, b1, show ((s.size : Int) == 16) = true from by simp; omega, show (s.size == 16) = true from by simp [h]]
    cases soundB s
    · exact ⟨_, rfl⟩
    · exact ⟨_, rfl⟩
  · rw [show ((s.size : Int) == 16) = false from by simp; omega, show (s.size == 16) = false from by simp [h]]
    simp
theorem ref_acq_is (s : ByteArray) : ∃ t, bursarref11_Name.f (2, s) = some (t, acqB s) := by
  unfold bursarref11_Name.f acqB
  by_cases h : s.size = 6
  · have := ref_All_is s (by omega)
    have b1 : Nat.ble (1 + s.size) 9223372036854775807 = true := by rw [h]; rfl
    rw [this, b1, show ((s.size : Int) == 6) = true from by simp; omega, show (s.size == 6) = true from by simp [h]]
    cases digitsB s
    · exact ⟨_, rfl⟩
    · exact ⟨_, rfl⟩
  · rw [show ((s.size : Int) == 6) = false from by simp; omega, show (s.size == 6) = false from by simp [h]]
    simp
/-- a hold as the code has it: its reference, acquirer, card, approved, captured, until, open -/
abbrev Hd := ByteArray × (ByteArray × (ByteArray × (Int × (Int × (Int × Bool)))))
def untilB (n : Int) : Bool := decide (0 ≤ n) && decide (n ≤ 2147483647)
def mayB (h : Hd) : Bool := refB h.1 && (cardB h.2.2.1 && (acqB h.2.1 && (untilB h.2.2.2.2.2.1 && (decide (0 ≤ h.2.2.2.2.1) && (decide (h.2.2.2.2.1 ≤ h.2.2.2.1) && (!h.2.2.2.2.2.2 || decide (h.2.2.2.2.1 < h.2.2.2.1)))))))
theorem until_is (n : Int) : hold_until.f n = some (untilB n) := by
  grind [hold_until.f, untilB]
theorem hold_May_is (h : Hd) (hs : h.1.size ≤ 4611686018427387904) : hold_May.f h = some (mayB h) := by
  unfold hold_May.f mayB
  rw [hold_Ref_is _ hs, card_is, acq_is, until_is]
  cases refB h.1
  · rfl
  cases cardB h.2.2.1
  · rfl
  cases acqB h.2.1
  · rfl
  cases untilB h.2.2.2.2.2.1
  · rfl
  cases h.2.2.2.2.2.2 <;> grind
theorem ref_May_is (h : Hd) : bursarref14_May.f h = some (mayB h) := by
  unfold bursarref14_May.f mayB
  obtain ⟨t, e1⟩ := ref_card_is h.2.2.1
  obtain ⟨u, e2⟩ := ref_acq_is h.2.1
  rw [e1, e2, ref_Ref_is]
  cases refB h.1
  · rfl
  cases cardB h.2.2.1
  · rfl
  cases acqB h.2.1
  · rfl
  unfold untilB
  cases h.2.2.2.2.2.2 <;> grind
/-- what is left of a hold that may be -/
def leftI (h : Hd) : Int := bif h.2.2.2.2.2.2 then h.2.2.2.1 - h.2.2.2.2.1 else 0
theorem left_range {h : Hd} (hm : mayB h = true) (ha : h.2.2.2.1 ≤ 9223372036854775807) : 0 ≤ leftI h ∧ leftI h ≤ 9223372036854775807 := by
  unfold mayB at hm
  unfold leftI
  simp only [Bool.and_eq_true, decide_eq_true_eq] at hm
  cases h.2.2.2.2.2.2 <;> simp <;> omega
theorem hold_Left_is {h : Hd} (hs : h.1.size ≤ 4611686018427387904) (hm : mayB h = true) (ha : h.2.2.2.1 ≤ 9223372036854775807) : hold_Left.f h = some (leftI h) := by
  have hr := left_range hm ha
  unfold hold_Left.f
  rw [hold_May_is h hs, hm]
  unfold leftI at hr ⊢
  cases hb : h.2.2.2.2.2.2
  · rfl
  · rw [hb] at hr
    simp only [cond_true] at hr
    simp [wrap_i64 (n := h.2.2.2.1 - h.2.2.2.2.1) (by omega) (by omega)]
theorem ref_Left_is {h : Hd} (hm : mayB h = true) (ha : h.2.2.2.1 ≤ 9223372036854775807) : bursarref14_Left.f h = some (leftI h) := by
  have hr := left_range hm ha
  unfold bursarref14_Left.f
  unfold leftI at hr ⊢
  cases hb : h.2.2.2.2.2.2
  · rfl
  · rw [hb] at hr
    simp only [cond_true] at hr
    simp [wrap_i64 (n := h.2.2.2.1 - h.2.2.2.2.1) (by omega) (by omega)]
end Go.Proofs.Ytloambokbipnjaa
end
section
/- The Go function money.Sum, as a Lean function, and that it is this one. Written by a program of this session. -/
set_option linter.unusedVariables false
set_option maxRecDepth 100000
namespace Go.Proofs.Ytloambokbipnjaa
open Go Go.Fw
abbrev money_Sum.As : Shs := (.cons (.x (.l (.i .i64))) .nil)
abbrev money_Sum.m : Back := [(false, (.i .i64)), (false, (.i .i64))]
noncomputable abbrev money_Sum.H : HK := hk P G0 E0 [] noLoops 4
theorem money_Sum.hok : HKOK P money_Sum.H := hk_ok e0_ok (rows_ok (ws := []) trivial) (fun g n => noLoops_ok g n) 4
abbrev money_Sum.sh4 : SSh := ⟨[(4, (.x (.i .i64))), (5, (.x (.i .u64))), (10, (.x (.l (.i .i64)))), (11, (.x (.i .i64))), (12, (.x (.i .i64)))], []⟩
abbrev money_Sum.os4 : PEnds := [((.exit 0), ⟨[(4, (.x (.i .i64))), (5, (.x (.i .u64)))], []⟩)]
noncomputable def money_Sum.t4 (s : (Int × (Int × ((List Int) × (Int × Int))))) : Option ((Int × (Int × ((List Int) × (Int × Int)))) ⊕ ((Int × Int))) := (bif (decide ((s.2.2.2.2 < s.2.2.2.1))) then (bif ((decide (((0 : Int) ≤ s.2.2.2.2))) && (decide ((s.2.2.2.2 < ((List.length s.2.2.1) : Int))))) then (bif ((((decide (((0 : Int) ≤ s.2.1))) && (decide (((0 : Int) ≤ (IntKind.wrap .u64 (List.getD s.2.2.1 (Int.toNat s.2.2.2.2) (0 : Int))))))) && true) && true) then (some (.inl ((IntKind.wrap .i64 (s.1 + (IntKind.wrap .i64 ((Int.fdiv (List.getD s.2.2.1 (Int.toNat s.2.2.2.2) (0 : Int)) (9223372036854775808 : Int)) + (IntKind.wrap .i64 (HDiv.hDiv ((s.2.1 + (IntKind.wrap .u64 (List.getD s.2.2.1 (Int.toNat s.2.2.2.2) (0 : Int)))) + (0 : Int)) (18446744073709551616 : Int))))))), ((HMod.hMod ((s.2.1 + (IntKind.wrap .u64 (List.getD s.2.2.1 (Int.toNat s.2.2.2.2) (0 : Int)))) + (0 : Int)) (18446744073709551616 : Int)), (s.2.2.1, (s.2.2.2.1, (IntKind.wrap .i64 (s.2.2.2.2 + (1 : Int))))))))) else none) else none) else (some (.inr (s.1, s.2.1))))
theorem money_Sum.t4_ok : ∀ s : Vals money_Sum.sh4.tys, turnK P money_Sum.H (lp []) (bodyAt (codeOf P 38) 4) 0 money_Sum.sh4 money_Sum.os4 s some = money_Sum.t4 s := fun s => by kernel_rfl
noncomputable def money_Sum.l4 : (Int × (Int × ((List Int) × (Int × Int)))) → Option ((Int × Int)) := rounds money_Sum.t4
noncomputable def money_Sum.f (a : (List Int)) : Option (Int × Int) := (((money_Sum.l4 ((0 : Int), ((0 : Int), (a, (((List.length a) : Int), (0 : Int))))))).bind fun (x1 : (Int × Int)) => (bif (x1.1 != (Int.fdiv (IntKind.wrap .i64 x1.2) (9223372036854775808 : Int))) then (some ((0 : Int), (2 : Int))) else (some ((IntKind.wrap .i64 x1.2), (0 : Int)))))
theorem money_Sum.ok : ∀ a : Vals money_Sum.As.tys, fnK P money_Sum.H (lp [(4, NodeT.summ ⟨money_Sum.sh4, money_Sum.os4, money_Sum.l4⟩ 0)]) 38 money_Sum.As money_Sum.m a some = money_Sum.f a := fun a => by kernel_rfl
noncomputable abbrev money_Sum.row : Row := fnRow 38 money_Sum.As money_Sum.m money_Sum.f
theorem money_Sum.row_ok : RowOK P G0 money_Sum.row := row_told money_Sum.hok (lp_of (l := [(4, NodeT.summ ⟨money_Sum.sh4, money_Sum.os4, money_Sum.l4⟩ 0)]) ⟨loop_sum money_Sum.hok (by kernel_rfl) (by kernel_rfl) (l := []) trivial money_Sum.sh4 money_Sum.os4 (by kernel_rfl) money_Sum.t4 money_Sum.t4_ok, trivial⟩) (fun _ => rfl) money_Sum.ok
end Go.Proofs.Ytloambokbipnjaa
end
section
/- The Go function bursarref01.Sum, as a Lean function, and that it is this one. Written by a program of this session. -/
set_option linter.unusedVariables false
set_option maxRecDepth 100000
namespace Go.Proofs.Ytloambokbipnjaa
open Go Go.Fw
abbrev bursarref01_Sum.As : Shs := (.cons (.x (.l (.i .i64))) .nil)
abbrev bursarref01_Sum.m : Back := [(false, (.i .i64)), (false, .b)]
noncomputable abbrev bursarref01_Sum.H : HK := hk P G0 E0 [] noLoops 4
theorem bursarref01_Sum.hok : HKOK P bursarref01_Sum.H := hk_ok e0_ok (rows_ok (ws := []) trivial) (fun g n => noLoops_ok g n) 4
abbrev bursarref01_Sum.sh4 : SSh := ⟨[(0, (.x (.l (.i .i64)))), (4, (.own 0 1)), (5, (.own 1 1)), (6, (.x (.i .i64)))], [.arrN (.i .i64), .arrN (.i .i64)]⟩
abbrev bursarref01_Sum.os4 : PEnds := [((.exit 0), ⟨[(4, (.x (.l (.i .i64)))), (5, (.x (.l (.i .i64))))], []⟩)]
noncomputable def bursarref01_Sum.t4 (s : ((List Int) × (Int × ((List Int) × (List Int))))) : Option (((List Int) × (Int × ((List Int) × (List Int)))) ⊕ (((List Int) × (List Int)))) := (bif (decide ((s.2.1 < ((List.length s.1) : Int)))) then (bif ((decide (((0 : Int) ≤ s.2.1))) && (decide ((s.2.1 < ((List.length s.1) : Int))))) then (bif (decide (((List.getD s.1 (Int.toNat s.2.1) (0 : Int)) ≥ (0 : Int)))) then (bif ((decide (((0 : Int) ≤ s.2.1))) && (decide ((s.2.1 < ((List.length s.1) : Int))))) then (bif ((true && (Nat.ble (((List.length s.2.2.1) + (List.length ((List.getD s.1 (Int.toNat s.2.1) (0 : Int)) :: []))) * 8) 140737488355328)) && (Nat.ble ((List.length s.2.2.1) + (List.length ((List.getD s.1 (Int.toNat s.2.1) (0 : Int)) :: []))) 140737488355328)) then (some (.inl (s.1, ((IntKind.wrap .i64 (s.2.1 + (1 : Int))), ((s.2.2.1 ++ ((List.getD s.1 (Int.toNat s.2.1) (0 : Int)) :: [])), s.2.2.2))))) else none) else none) else (bif ((decide (((0 : Int) ≤ s.2.1))) && (decide ((s.2.1 < ((List.length s.1) : Int))))) then (bif ((true && (Nat.ble (((List.length s.2.2.2) + (List.length ((List.getD s.1 (Int.toNat s.2.1) (0 : Int)) :: []))) * 8) 140737488355328)) && (Nat.ble ((List.length s.2.2.2) + (List.length ((List.getD s.1 (Int.toNat s.2.1) (0 : Int)) :: []))) 140737488355328)) then (some (.inl (s.1, ((IntKind.wrap .i64 (s.2.1 + (1 : Int))), (s.2.2.1, (s.2.2.2 ++ ((List.getD s.1 (Int.toNat s.2.1) (0 : Int)) :: []))))))) else none) else none)) else none) else (some (.inr s.2.2)))
theorem bursarref01_Sum.t4_ok : ∀ s : Vals bursarref01_Sum.sh4.tys, turnK P bursarref01_Sum.H (lp []) (bodyAt (codeOf P 41) 4) 0 bursarref01_Sum.sh4 bursarref01_Sum.os4 s some = bursarref01_Sum.t4 s := by rintro ⟨s0, s1, s2, s3⟩; cases s2 <;> cases s3 <;> kernel_rfl
noncomputable def bursarref01_Sum.l4 : ((List Int) × (Int × ((List Int) × (List Int)))) → Option (((List Int) × (List Int))) := rounds bursarref01_Sum.t4
abbrev bursarref01_Sum.sh8 : SSh := ⟨[(4, (.x (.l (.i .i64)))), (5, (.x (.l (.i .i64)))), (7, (.x (.i .i64))), (8, (.x (.i .i64))), (9, (.x (.i .i64)))], []⟩
abbrev bursarref01_Sum.sh8_0 : SSh := ⟨[(4, (.x (.l (.i .i64)))), (5, (.x (.l (.i .i64)))), (7, (.x (.i .i64))), (8, (.x (.i .i64))), (9, (.x (.i .i64)))], []⟩
abbrev bursarref01_Sum.os8_0 : PEnds := [(.n, ⟨[(4, (.x (.l (.i .i64)))), (5, (.x (.l (.i .i64)))), (7, (.x (.i .i64))), (8, (.x (.i .i64))), (9, (.x (.i .i64))), (45, (.x .b))], []⟩)]
noncomputable def bursarref01_Sum.l8_0 (s : ((List Int) × ((List Int) × (Int × (Int × Int))))) : Option (((List Int) × ((List Int) × (Int × (Int × (Int × Bool)))))) := (bif (decide ((s.2.2.2.1 < ((List.length s.1) : Int)))) then (some (s.1, (s.2.1, (s.2.2.1, (s.2.2.2.1, (s.2.2.2.2, true)))))) else (some (s.1, (s.2.1, (s.2.2.1, (s.2.2.2.1, (s.2.2.2.2, (decide ((s.2.2.2.2 < ((List.length s.2.1) : Int)))))))))))
theorem bursarref01_Sum.l8_0_ok : ∀ s : Vals bursarref01_Sum.sh8_0.tys, nodeK P bursarref01_Sum.H (lp []) (placeAt (bodyAt (codeOf P 41) 8) 0) 0 bursarref01_Sum.sh8_0 bursarref01_Sum.os8_0 s some = bursarref01_Sum.l8_0 s := fun s => by kernel_rfl
abbrev bursarref01_Sum.sh8_4 : SSh := ⟨[(4, (.x (.l (.i .i64)))), (5, (.x (.l (.i .i64)))), (7, (.x (.i .i64))), (8, (.x (.i .i64))), (9, (.x (.i .i64)))], []⟩
abbrev bursarref01_Sum.os8_4 : PEnds := [(.n, ⟨[(4, (.x (.l (.i .i64)))), (5, (.x (.l (.i .i64)))), (7, (.x (.i .i64))), (8, (.x (.i .i64))), (9, (.x (.i .i64))), (59, (.x .b))], []⟩)]
noncomputable def bursarref01_Sum.l8_4 (s : ((List Int) × ((List Int) × (Int × (Int × Int))))) : Option (((List Int) × ((List Int) × (Int × (Int × (Int × Bool)))))) := (bif (decide ((s.2.2.2.2 ≥ ((List.length s.2.1) : Int)))) then (some (s.1, (s.2.1, (s.2.2.1, (s.2.2.2.1, (s.2.2.2.2, true)))))) else (bif (decide ((s.2.2.2.1 < ((List.length s.1) : Int)))) then (some (s.1, (s.2.1, (s.2.2.1, (s.2.2.2.1, (s.2.2.2.2, (decide ((s.2.2.1 < (0 : Int)))))))))) else (some (s.1, (s.2.1, (s.2.2.1, (s.2.2.2.1, (s.2.2.2.2, false))))))))
theorem bursarref01_Sum.l8_4_ok : ∀ s : Vals bursarref01_Sum.sh8_4.tys, nodeK P bursarref01_Sum.H (lp []) (placeAt (bodyAt (codeOf P 41) 8) 4) 0 bursarref01_Sum.sh8_4 bursarref01_Sum.os8_4 s some = bursarref01_Sum.l8_4 s := fun s => by kernel_rfl
abbrev bursarref01_Sum.sh8_5 : SSh := ⟨[(4, (.x (.l (.i .i64)))), (5, (.x (.l (.i .i64)))), (7, (.x (.i .i64))), (8, (.x (.i .i64))), (9, (.x (.i .i64))), (59, (.x .b))], []⟩
abbrev bursarref01_Sum.os8_5 : PEnds := [(.n, ⟨[(4, (.x (.l (.i .i64)))), (5, (.x (.l (.i .i64)))), (7, (.x (.i .i64))), (8, (.x (.i .i64))), (9, (.x (.i .i64))), (10, (.x (.i .i64)))], []⟩)]
noncomputable def bursarref01_Sum.l8_5 (s : ((List Int) × ((List Int) × (Int × (Int × (Int × Bool)))))) : Option (((List Int) × ((List Int) × (Int × (Int × (Int × Int)))))) := (bif s.2.2.2.2.2 then (bif ((decide (((0 : Int) ≤ s.2.2.2.1))) && (decide ((s.2.2.2.1 < ((List.length s.1) : Int))))) then (some (s.1, (s.2.1, (s.2.2.1, ((IntKind.wrap .i64 (s.2.2.2.1 + (1 : Int))), (s.2.2.2.2.1, (List.getD s.1 (Int.toNat s.2.2.2.1) (0 : Int)))))))) else none) else (bif ((decide (((0 : Int) ≤ s.2.2.2.2.1))) && (decide ((s.2.2.2.2.1 < ((List.length s.2.1) : Int))))) then (some (s.1, (s.2.1, (s.2.2.1, (s.2.2.2.1, ((IntKind.wrap .i64 (s.2.2.2.2.1 + (1 : Int))), (List.getD s.2.1 (Int.toNat s.2.2.2.2.1) (0 : Int)))))))) else none))
theorem bursarref01_Sum.l8_5_ok : ∀ s : Vals bursarref01_Sum.sh8_5.tys, nodeK P bursarref01_Sum.H (lp []) (placeAt (bodyAt (codeOf P 41) 8) 5) 0 bursarref01_Sum.sh8_5 bursarref01_Sum.os8_5 s some = bursarref01_Sum.l8_5 s := fun s => by kernel_rfl
abbrev bursarref01_Sum.sh8_10 : SSh := ⟨[(4, (.x (.l (.i .i64)))), (5, (.x (.l (.i .i64)))), (7, (.x (.i .i64))), (8, (.x (.i .i64))), (9, (.x (.i .i64))), (10, (.x (.i .i64)))], []⟩
abbrev bursarref01_Sum.os8_10 : PEnds := [(.n, ⟨[(4, (.x (.l (.i .i64)))), (5, (.x (.l (.i .i64)))), (7, (.x (.i .i64))), (8, (.x (.i .i64))), (9, (.x (.i .i64))), (10, (.x (.i .i64))), (89, (.x .b))], []⟩)]
noncomputable def bursarref01_Sum.l8_10 (s : ((List Int) × ((List Int) × (Int × (Int × (Int × Int)))))) : Option (((List Int) × ((List Int) × (Int × (Int × (Int × (Int × Bool))))))) := (bif (decide ((s.2.2.2.2.2 > (0 : Int)))) then (bif (decide ((s.2.2.1 > (IntKind.wrap .i64 ((9223372036854775807 : Int) - s.2.2.2.2.2))))) then (some (s.1, (s.2.1, (s.2.2.1, (s.2.2.2.1, (s.2.2.2.2.1, (s.2.2.2.2.2, true))))))) else (bif (decide ((s.2.2.2.2.2 < (0 : Int)))) then (some (s.1, (s.2.1, (s.2.2.1, (s.2.2.2.1, (s.2.2.2.2.1, (s.2.2.2.2.2, (decide ((s.2.2.1 < (IntKind.wrap .i64 ((-9223372036854775808 : Int) - s.2.2.2.2.2)))))))))))) else (some (s.1, (s.2.1, (s.2.2.1, (s.2.2.2.1, (s.2.2.2.2.1, (s.2.2.2.2.2, false))))))))) else (bif (decide ((s.2.2.2.2.2 < (0 : Int)))) then (some (s.1, (s.2.1, (s.2.2.1, (s.2.2.2.1, (s.2.2.2.2.1, (s.2.2.2.2.2, (decide ((s.2.2.1 < (IntKind.wrap .i64 ((-9223372036854775808 : Int) - s.2.2.2.2.2)))))))))))) else (some (s.1, (s.2.1, (s.2.2.1, (s.2.2.2.1, (s.2.2.2.2.1, (s.2.2.2.2.2, false)))))))))
theorem bursarref01_Sum.l8_10_ok : ∀ s : Vals bursarref01_Sum.sh8_10.tys, nodeK P bursarref01_Sum.H (lp []) (placeAt (bodyAt (codeOf P 41) 8) 10) 0 bursarref01_Sum.sh8_10 bursarref01_Sum.os8_10 s some = bursarref01_Sum.l8_10 s := fun s => by kernel_rfl
abbrev bursarref01_Sum.os8 : PEnds := [(.ret, ⟨[(2, (.x (.i .i64))), (3, (.x .b))], []⟩), ((.exit 2), ⟨[(7, (.x (.i .i64)))], []⟩)]
noncomputable def bursarref01_Sum.t8 (s : ((List Int) × ((List Int) × (Int × (Int × Int))))) : Option (((List Int) × ((List Int) × (Int × (Int × Int)))) ⊕ ((Int × Bool) ⊕ Int)) := (((bursarref01_Sum.l8_0 s)).bind fun (x5 : ((List Int) × ((List Int) × (Int × (Int × (Int × Bool)))))) => (bif x5.2.2.2.2.2 then (((bursarref01_Sum.l8_4 (x5.1, (x5.2.1, (x5.2.2.1, (x5.2.2.2.1, x5.2.2.2.2.1)))))).bind fun (x6 : ((List Int) × ((List Int) × (Int × (Int × (Int × Bool)))))) => (((bursarref01_Sum.l8_5 x6)).bind fun (x7 : ((List Int) × ((List Int) × (Int × (Int × (Int × Int)))))) => (((bursarref01_Sum.l8_10 x7)).bind fun (x8 : ((List Int) × ((List Int) × (Int × (Int × (Int × (Int × Bool))))))) => (bif x8.2.2.2.2.2.2 then (some (.inr (.inl ((0 : Int), false)))) else (some (.inl (x8.1, (x8.2.1, ((IntKind.wrap .i64 (x8.2.2.1 + x8.2.2.2.2.2.1)), (x8.2.2.2.1, x8.2.2.2.2.1)))))))))) else (some (.inr (.inr x5.2.2.1)))))
theorem bursarref01_Sum.t8_ok : ∀ s : Vals bursarref01_Sum.sh8.tys, turnK P bursarref01_Sum.H (lp [(0, NodeT.summ ⟨bursarref01_Sum.sh8_0, bursarref01_Sum.os8_0, bursarref01_Sum.l8_0⟩ 0), (4, NodeT.summ ⟨bursarref01_Sum.sh8_4, bursarref01_Sum.os8_4, bursarref01_Sum.l8_4⟩ 0), (5, NodeT.summ ⟨bursarref01_Sum.sh8_5, bursarref01_Sum.os8_5, bursarref01_Sum.l8_5⟩ 0), (10, NodeT.summ ⟨bursarref01_Sum.sh8_10, bursarref01_Sum.os8_10, bursarref01_Sum.l8_10⟩ 0)]) (bodyAt (codeOf P 41) 8) 0 bursarref01_Sum.sh8 bursarref01_Sum.os8 s some = bursarref01_Sum.t8 s := fun s => by kernel_rfl
noncomputable def bursarref01_Sum.l8 : ((List Int) × ((List Int) × (Int × (Int × Int)))) → Option ((Int × Bool) ⊕ Int) := rounds bursarref01_Sum.t8
noncomputable def bursarref01_Sum.f (a : (List Int)) : Option (Int × Bool) := (((bursarref01_Sum.l4 (a, ((0 : Int), ([], []))))).bind fun (x1 : ((List Int) × (List Int))) => (((bursarref01_Sum.l8 (x1.1, (x1.2, ((0 : Int), ((0 : Int), (0 : Int))))))).bind fun (x2 : ((Int × Bool) ⊕ Int)) => (match x2 with | .inl x3 => (some x3) | .inr x3 => (some (x3, true)))))
theorem bursarref01_Sum.ok : ∀ a : Vals bursarref01_Sum.As.tys, fnK P bursarref01_Sum.H (lp [(4, NodeT.summ ⟨bursarref01_Sum.sh4, bursarref01_Sum.os4, bursarref01_Sum.l4⟩ 0), (8, NodeT.summ ⟨bursarref01_Sum.sh8, bursarref01_Sum.os8, bursarref01_Sum.l8⟩ 0)]) 41 bursarref01_Sum.As bursarref01_Sum.m a some = bursarref01_Sum.f a := fun a => by kernel_rfl
noncomputable abbrev bursarref01_Sum.row : Row := fnRow 41 bursarref01_Sum.As bursarref01_Sum.m bursarref01_Sum.f
theorem bursarref01_Sum.row_ok : RowOK P G0 bursarref01_Sum.row := row_told bursarref01_Sum.hok (lp_of (l := [(4, NodeT.summ ⟨bursarref01_Sum.sh4, bursarref01_Sum.os4, bursarref01_Sum.l4⟩ 0), (8, NodeT.summ ⟨bursarref01_Sum.sh8, bursarref01_Sum.os8, bursarref01_Sum.l8⟩ 0)]) ⟨loop_sum bursarref01_Sum.hok (by kernel_rfl) (by kernel_rfl) (l := []) trivial bursarref01_Sum.sh4 bursarref01_Sum.os4 (by kernel_rfl) bursarref01_Sum.t4 bursarref01_Sum.t4_ok, ⟨loop_sum bursarref01_Sum.hok (by kernel_rfl) (by kernel_rfl) (l := [(0, NodeT.summ ⟨bursarref01_Sum.sh8_0, bursarref01_Sum.os8_0, bursarref01_Sum.l8_0⟩ 0), (4, NodeT.summ ⟨bursarref01_Sum.sh8_4, bursarref01_Sum.os8_4, bursarref01_Sum.l8_4⟩ 0), (5, NodeT.summ ⟨bursarref01_Sum.sh8_5, bursarref01_Sum.os8_5, bursarref01_Sum.l8_5⟩ 0), (10, NodeT.summ ⟨bursarref01_Sum.sh8_10, bursarref01_Sum.os8_10, bursarref01_Sum.l8_10⟩ 0)]) ⟨place_sum bursarref01_Sum.hok (by kernel_rfl) (l := []) trivial bursarref01_Sum.sh8_0 bursarref01_Sum.os8_0 bursarref01_Sum.l8_0 bursarref01_Sum.l8_0_ok, ⟨place_sum bursarref01_Sum.hok (by kernel_rfl) (l := []) trivial bursarref01_Sum.sh8_4 bursarref01_Sum.os8_4 bursarref01_Sum.l8_4 bursarref01_Sum.l8_4_ok, ⟨place_sum bursarref01_Sum.hok (by kernel_rfl) (l := []) trivial bursarref01_Sum.sh8_5 bursarref01_Sum.os8_5 bursarref01_Sum.l8_5 bursarref01_Sum.l8_5_ok, ⟨place_sum bursarref01_Sum.hok (by kernel_rfl) (l := []) trivial bursarref01_Sum.sh8_10 bursarref01_Sum.os8_10 bursarref01_Sum.l8_10 bursarref01_Sum.l8_10_ok, trivial⟩⟩⟩⟩ bursarref01_Sum.sh8 bursarref01_Sum.os8 (by kernel_rfl) bursarref01_Sum.t8 bursarref01_Sum.t8_ok, trivial⟩⟩) (fun _ => rfl) bursarref01_Sum.ok
end Go.Proofs.Ytloambokbipnjaa
end
section
/- Sums of amounts: what the code and the document's answer compute. By this session. -/
set_option linter.unusedVariables false
set_option linter.unusedSimpArgs false
namespace Go.Proofs.Ytloambokbipnjaa
open Go Go.Fw
def fits (n : Int) : Bool := decide (-9223372036854775808 ≤ n) && decide (n ≤ 9223372036854775807)
def Amounts (l : List Int) : Prop := ∀ a ∈ l, -9223372036854775808 ≤ a ∧ a ≤ 9223372036854775807
theorem Amounts.at {l : List Int} (h : Amounts l) {i : Nat} (hi : i < l.length) : -9223372036854775808 ≤ l.getD i 0 ∧ l.getD i 0 ≤ 9223372036854775807 := by
  rw [getD_at hi]
  exact h _ (List.getElem_mem hi)
def upTo (l : List Int) (i : Nat) : Int := (l.take i).sum
theorem upTo_succ {l : List Int} {i : Nat} (h : i < l.length) : upTo l (i + 1) = upTo l i + l.getD i 0 := by
  unfold upTo
  rw [take_up 0 h, List.sum_append]
  simp
theorem upTo_bound {l : List Int} (h : Amounts l) : ∀ i : Nat, i ≤ l.length → -9223372036854775808 * (i : Int) ≤ upTo l i ∧ upTo l i ≤ 9223372036854775807 * (i : Int)
  | 0, _ => by simp [upTo]
  | i + 1, hi => by
    have ih := upTo_bound h i (by omega)
    have := h.at (i := i) (by omega)
    rw [upTo_succ (by omega)]
    omega
theorem wrap_back {n : Int} (h0 : 0 ≤ n) (h1 : n < 18446744073709551616) : IntKind.wrap .i64 n = if n ≥ 9223372036854775808 then n - 18446744073709551616 else n := by
  rw [IntKind.wrap_i64]; split <;> omega
/-- the sum, and the error's number -/
def sumS (n : Int) : Int × Int := bif fits n then (n, 0) else (0, 2)
theorem money_Sum_is {l : List Int} (hs : l.length ≤ 4611686018427387904) (ha : Amounts l) : money_Sum.f l = some (sumS l.sum) := by
  have h := rounds_to (t := money_Sum.t4) (fun i => (upTo l i / 18446744073709551616, (upTo l i % 18446744073709551616, (l, ((l.length : Int), (i : Int)))))) l.length (fun i hi => by
    have h2 := wrap_up (n := i) (by omega)
    obtain ⟨hb1, hb2⟩ := upTo_bound ha i (by omega)
    obtain ⟨ha1, ha2⟩ := ha.at (i := i) (by omega)
    simp only [money_Sum.t4, Int.toNat_natCast, h2]
    rw [upTo_succ (by omega)]
    obtain ⟨a, hg⟩ : ∃ a, l.getD i 0 = a := ⟨_, rfl⟩
    obtain ⟨T, hT⟩ : ∃ T, upTo l i = T := ⟨_, rfl⟩
    simp only [hg, hT] at ha1 ha2 hb1 hb2 ⊢
    have d1 : (decide ((i : Int) < (l.length : Int))) = true := decide_eq_true (by omega)
    have d3 : decide ((0 : Int) ≤ (i : Int)) = true := decide_eq_true (by omega)
    have d4 : decide ((0 : Int) ≤ T % 18446744073709551616) = true := decide_eq_true (by omega)
    have d5 : decide ((0 : Int) ≤ IntKind.wrap .u64 a) = true := decide_eq_true (by rw [wrap_u64]; omega)
    have c5 : (T % 18446744073709551616 + IntKind.wrap .u64 a + 0) % 18446744073709551616 = (T + a) % 18446744073709551616 := by rw [wrap_u64]; omega
    have c4 : IntKind.wrap .i64 (T / 18446744073709551616 + IntKind.wrap .i64 (Int.fdiv a 9223372036854775808 + IntKind.wrap .i64 ((T % 18446744073709551616 + IntKind.wrap .u64 a + 0) / 18446744073709551616))) = (T + a) / 18446744073709551616 := by
      rw [wrap_u64, Int.fdiv_eq_ediv_of_nonneg a (by omega)]
      have w1 : IntKind.wrap .i64 ((T % 18446744073709551616 + a % 18446744073709551616 + 0) / 18446744073709551616) = (T % 18446744073709551616 + a % 18446744073709551616 + 0) / 18446744073709551616 := wrap_i64 (by omega) (by omega)
      rw [w1]
      have w2 : IntKind.wrap .i64 (a / 9223372036854775808 + (T % 18446744073709551616 + a % 18446744073709551616 + 0) / 18446744073709551616) = a / 9223372036854775808 + (T % 18446744073709551616 + a % 18446744073709551616 + 0) / 18446744073709551616 := wrap_i64 (by omega) (by omega)
      rw [w2, wrap_i64 (by omega) (by omega)]
      omega
    simp only [d1, d3, d4, d5, c4, c5, Bool.and_self, cond_true])
  have e : upTo l l.length = l.sum := by unfold upTo; rw [List.take_length]
  have hb := upTo_bound ha l.length (Nat.le_refl _)
  unfold money_Sum.f money_Sum.l4
  have h0 : ((0 : Int), ((0 : Int), (l, ((l.length : Int), (0 : Int))))) = (upTo l 0 / 18446744073709551616, (upTo l 0 % 18446744073709551616, (l, ((l.length : Int), ((0 : Nat) : Int))))) := rfl
  rw [h0, h, e, rounds_end (r := (l.sum / 18446744073709551616, l.sum % 18446744073709551616)) (by simp [money_Sum.t4])]
  rw [e] at hb
  simp only [Option.bind_some]
  unfold sumS
  generalize l.sum = s at hb ⊢
  have hw := wrap_back (n := s % 18446744073709551616) (by omega) (by omega)
  rw [hw, Int.fdiv_eq_ediv_of_nonneg _ (by omega)]
  by_cases hf : fits s = true
  · have hf' := hf
    simp only [fits, Bool.and_eq_true, decide_eq_true_eq] at hf'
    rw [hf]
    by_cases hn : s % 18446744073709551616 ≥ 9223372036854775808
    · rw [if_pos hn]
      have e : (s / 18446744073709551616 != (s % 18446744073709551616 - 18446744073709551616) / 9223372036854775808) = false := by simp; omega
      have e2 : s % 18446744073709551616 - 18446744073709551616 = s := by omega
      rw [e, e2]; rfl
    · rw [if_neg hn]
      have e : (s / 18446744073709551616 != s % 18446744073709551616 / 9223372036854775808) = false := by simp; omega
      have e2 : s % 18446744073709551616 = s := by omega
      rw [e, e2]; rfl
  · have hf' := hf
    simp only [fits, Bool.and_eq_true, decide_eq_true_eq] at hf'
    rw [Bool.eq_false_iff.mpr hf]
    by_cases hn : s % 18446744073709551616 ≥ 9223372036854775808
    · rw [if_pos hn]
      have e : (s / 18446744073709551616 != (s % 18446744073709551616 - 18446744073709551616) / 9223372036854775808) = true := by simp; omega
      rw [e]; rfl
    · rw [if_neg hn]
      have e : (s / 18446744073709551616 != s % 18446744073709551616 / 9223372036854775808) = true := by simp; omega
      rw [e]; rfl
/-! ### the document's answer: those above and those below, one by one -/
def ups (l : List Int) : List Int := l.filter fun a => decide (0 ≤ a)
def downs (l : List Int) : List Int := l.filter fun a => !decide (0 ≤ a)
theorem ups_len (l : List Int) : (ups l).length ≤ l.length := List.length_filter_le _ _
theorem downs_len (l : List Int) : (downs l).length ≤ l.length := List.length_filter_le _ _
theorem ups_sum : ∀ l : List Int, (ups l).sum + (downs l).sum = l.sum
  | [] => rfl
  | a :: l => by
    have ih := ups_sum l
    unfold ups downs at *
    by_cases h : 0 ≤ a
    · simp [h]; omega
    · simp [h]; omega
theorem split_is {l : List Int} (hs : l.length ≤ 17592186044415) : bursarref01_Sum.l4 (l, ((0 : Int), ([], []))) = some (ups l, downs l) := by
  have h := rounds_to (t := bursarref01_Sum.t4) (fun i => (l, ((i : Int), (ups (l.take i), downs (l.take i))))) l.length (fun i hi => by
    have h2 := wrap_up (n := i) (by omega)
    have hu := ups_len (l.take i)
    have hd := downs_len (l.take i)
    rw [List.length_take] at hu hd
    have d1 : (decide ((i : Int) < (l.length : Int))) = true := decide_eq_true (by omega)
    have d3 : decide ((0 : Int) ≤ (i : Int)) = true := decide_eq_true (by omega)
    simp only [bursarref01_Sum.t4, Int.toNat_natCast, h2, d1, d3, Bool.and_self, cond_true]
    rw [take_up 0 hi]
    obtain ⟨a, hg⟩ : ∃ a, l.getD i 0 = a := ⟨_, rfl⟩
    simp only [hg]
    unfold ups at hu ⊢
    unfold downs at hd ⊢
    rw [List.filter_append, List.filter_append]
    have b1 : Nat.ble ((List.length ((l.take i).filter fun a => decide (0 ≤ a)) + List.length [a]) * 8) 140737488355328 = true := Nat.ble_eq_true_of_le (by simp only [List.length_cons, List.length_nil]; omega)
    have b2 : Nat.ble (List.length ((l.take i).filter fun a => decide (0 ≤ a)) + List.length [a]) 140737488355328 = true := Nat.ble_eq_true_of_le (by simp only [List.length_cons, List.length_nil]; omega)
    have b3 : Nat.ble ((List.length ((l.take i).filter fun a => !decide (0 ≤ a)) + List.length [a]) * 8) 140737488355328 = true := Nat.ble_eq_true_of_le (by simp only [List.length_cons, List.length_nil]; omega)
    have b4 : Nat.ble (List.length ((l.take i).filter fun a => !decide (0 ≤ a)) + List.length [a]) 140737488355328 = true := Nat.ble_eq_true_of_le (by simp only [List.length_cons, List.length_nil]; omega)
    rw [b1, b2, b3, b4]
    by_cases h : 0 ≤ a <;> simp [h])
  unfold bursarref01_Sum.l4
  have h0 : (l, ((0 : Int), (([] : List Int), ([] : List Int)))) = (l, (((0 : Nat) : Int), (ups (l.take 0), downs (l.take 0)))) := rfl
  rw [h0, h, List.take_length, rounds_end (r := (ups l, downs l)) (by simp [bursarref01_Sum.t4])]
open bursarref01_Sum in
theorem sum_end {u d : List Int} {s : Int} {i k : Nat} (h1 : u.length ≤ i) (h2 : d.length ≤ k) : t8 (u, (d, (s, ((i : Int), (k : Int))))) = some (.inr (.inr s)) := by
  have d1 : decide ((i : Int) < (u.length : Int)) = false := decide_eq_false (by omega)
  have d2 : decide ((k : Int) < (d.length : Int)) = false := decide_eq_false (by omega)
  simp only [t8, l8_0, d1, d2, cond_false, Option.bind_some]
open bursarref01_Sum in
theorem sum_up {u d : List Int} {s : Int} {i k : Nat} (h1 : i < u.length) (hu : u.length ≤ 4611686018427387904) (h2 : d.length ≤ k ∨ s < 0) (ha : 0 ≤ u.getD i 0 ∧ u.getD i 0 ≤ 9223372036854775807) (hs : -9223372036854775808 ≤ s ∧ s ≤ 9223372036854775807) :
    t8 (u, (d, (s, ((i : Int), (k : Int))))) = some (bif decide (s + u.getD i 0 ≤ 9223372036854775807) then .inl (u, (d, (s + u.getD i 0, (((i + 1 : Nat) : Int), (k : Int))))) else .inr (.inl (0, false))) := by
  have w := wrap_up (n := i) (by omega)
  have d1 : decide ((i : Int) < (u.length : Int)) = true := decide_eq_true (by omega)
  have d2 : decide ((0 : Int) ≤ (i : Int)) = true := decide_eq_true (by omega)
  have e4 : l8_4 (u, (d, (s, ((i : Int), (k : Int))))) = some (u, (d, (s, ((i : Int), ((k : Int), true))))) := by
    unfold l8_4
    rcases h2 with h2 | h2
    · simp only [show decide (((k : Int)) ≥ (d.length : Int)) = true from decide_eq_true (by omega), cond_true]
    · simp only [d1, show decide (s < 0) = true from decide_eq_true h2]
      cases decide (((k : Int)) ≥ (d.length : Int)) <;> rfl
  have e5 : l8_5 (u, (d, (s, ((i : Int), ((k : Int), true))))) = some (u, (d, (s, (((i + 1 : Nat) : Int), ((k : Int), u.getD i 0))))) := by
    simp only [l8_5, Int.toNat_natCast, w, d1, d2, Bool.and_self, cond_true]
  simp only [t8, l8_0, d1, cond_true, Option.bind_some, e4, e5]
  generalize u.getD i 0 = a at ha
  have w1 : IntKind.wrap .i64 (9223372036854775807 - a) = 9223372036854775807 - a := wrap_i64 (by omega) (by omega)
  have nlt : decide (a < 0) = false := decide_eq_false (by omega)
  by_cases hx : s + a ≤ 9223372036854775807
  · have w2 : IntKind.wrap .i64 (s + a) = s + a := wrap_i64 (by omega) (by omega)
    have n2 : decide (s > 9223372036854775807 - a) = false := decide_eq_false (by omega)
    simp only [l8_10, w1, nlt, n2, decide_eq_true hx]
    cases decide (a > 0) <;> simp [w2]
  · have p1 : decide (a > 0) = true := decide_eq_true (by omega)
    have p2 : decide (s > 9223372036854775807 - a) = true := decide_eq_true (by omega)
    simp only [l8_10, w1, nlt, p1, p2, decide_eq_false hx]
    rfl
open bursarref01_Sum in
theorem sum_down {u d : List Int} {s : Int} {i k : Nat} (h1 : k < d.length) (hd : d.length ≤ 4611686018427387904) (h2 : ¬ (i < u.length ∧ s < 0)) (ha : -9223372036854775808 ≤ d.getD k 0 ∧ d.getD k 0 < 0) (hs : -9223372036854775808 ≤ s ∧ s ≤ 9223372036854775807) :
    t8 (u, (d, (s, ((i : Int), (k : Int))))) = some (bif decide (-9223372036854775808 ≤ s + d.getD k 0) then .inl (u, (d, (s + d.getD k 0, ((i : Int), ((k + 1 : Nat) : Int))))) else .inr (.inl (0, false))) := by
  have w := wrap_up (n := k) (by omega)
  have d1 : decide ((k : Int) < (d.length : Int)) = true := decide_eq_true (by omega)
  have d2 : decide ((0 : Int) ≤ (k : Int)) = true := decide_eq_true (by omega)
  have d3 : decide ((k : Int) ≥ (d.length : Int)) = false := decide_eq_false (by omega)
  have e0 : l8_0 (u, (d, (s, ((i : Int), (k : Int))))) = some (u, (d, (s, ((i : Int), ((k : Int), true))))) := by
    simp only [l8_0, d1]
    cases decide ((i : Int) < (u.length : Int)) <;> rfl
  have e4 : l8_4 (u, (d, (s, ((i : Int), (k : Int))))) = some (u, (d, (s, ((i : Int), ((k : Int), false))))) := by
    simp only [l8_4, d3]
    by_cases hi : i < u.length
    · rw [show decide (s < 0) = false from decide_eq_false fun h => h2 ⟨hi, h⟩]
      cases decide ((i : Int) < (u.length : Int)) <;> rfl
    · rw [show decide ((i : Int) < (u.length : Int)) = false from decide_eq_false (by omega)]; rfl
  have e5 : l8_5 (u, (d, (s, ((i : Int), ((k : Int), false))))) = some (u, (d, (s, ((i : Int), (((k + 1 : Nat) : Int), d.getD k 0))))) := by
    simp only [l8_5, Int.toNat_natCast, w, d1, d2, Bool.and_self, cond_true, cond_false]
  simp only [t8, e0, cond_true, Option.bind_some, e4, e5]
  generalize d.getD k 0 = a at ha
  have w1 : IntKind.wrap .i64 (-9223372036854775808 - a) = -9223372036854775808 - a := wrap_i64 (by omega) (by omega)
  have ngt : decide (a > 0) = false := decide_eq_false (by omega)
  have plt : decide (a < 0) = true := decide_eq_true (by omega)
  by_cases hx : -9223372036854775808 ≤ s + a
  · have w2 : IntKind.wrap .i64 (s + a) = s + a := wrap_i64 (by omega) (by omega)
    have n2 : decide (s < -9223372036854775808 - a) = false := decide_eq_false (by omega)
    simp only [l8_10, w1, ngt, plt, n2, decide_eq_true hx, cond_false, cond_true, Option.bind_some, w2]
  · have p2 : decide (s < -9223372036854775808 - a) = true := decide_eq_true (by omega)
    simp only [l8_10, w1, ngt, plt, p2, decide_eq_false hx, cond_false, cond_true, Option.bind_some]
theorem drop_sum {l : List Int} {i : Nat} (h : i < l.length) : (l.drop i).sum = l.getD i 0 + (l.drop (i + 1)).sum := by
  rw [List.drop_eq_getElem_cons h, List.sum_cons, getD_at h]
theorem nonneg_sum : ∀ {l : List Int}, (∀ a ∈ l, 0 ≤ a) → 0 ≤ l.sum
  | [], _ => by simp
  | a :: l, h => by
    have := nonneg_sum (l := l) fun b hb => h b (List.mem_cons_of_mem _ hb)
    have := h a List.mem_cons_self
    rw [List.sum_cons]; omega
theorem neg_sum : ∀ {l : List Int}, (∀ a ∈ l, a < 0) → l.sum ≤ 0
  | [], _ => by simp
  | a :: l, h => by
    have := neg_sum (l := l) fun b hb => h b (List.mem_cons_of_mem _ hb)
    have := h a List.mem_cons_self
    rw [List.sum_cons]; omega
theorem mix_is {u d : List Int} (hu : u.length ≤ 4611686018427387904) (hd : d.length ≤ 4611686018427387904) (hua : ∀ a ∈ u, 0 ≤ a ∧ a ≤ 9223372036854775807) (hda : ∀ a ∈ d, -9223372036854775808 ≤ a ∧ a < 0) (m : Nat) :
    ∀ (i k : Nat) (s : Int), u.length - i + (d.length - k) = m → -9223372036854775808 ≤ s ∧ s ≤ 9223372036854775807 →
      bursarref01_Sum.l8 (u, (d, (s, ((i : Int), (k : Int))))) = some (bif fits (s + (u.drop i).sum + (d.drop k).sum) then .inr (s + (u.drop i).sum + (d.drop k).sum) else .inl (0, false)) := by
  have un : ∀ i, 0 ≤ (u.drop i).sum := fun i => nonneg_sum fun a ha => (hua a (List.mem_of_mem_drop ha)).1
  have dn : ∀ k, (d.drop k).sum ≤ 0 := fun k => neg_sum fun a ha => (hda a (List.mem_of_mem_drop ha)).2
  induction m with
  | zero =>
    intro i k s hm hs
    unfold bursarref01_Sum.l8
    rw [rounds_end (sum_end (by omega) (by omega)), List.drop_eq_nil_of_le (by omega), List.drop_eq_nil_of_le (by omega)]
    simp [fits, hs.1, hs.2]
  | succ m ih =>
    intro i k s hm hs
    unfold bursarref01_Sum.l8 at ih ⊢
    by_cases hc : i < u.length ∧ (d.length ≤ k ∨ s < 0)
    · obtain ⟨h1, h2⟩ := hc
      have ha := hua (u.getD i 0) (by rw [getD_at h1]; exact List.getElem_mem h1)
      have h := sum_up h1 hu h2 ha hs
      rw [drop_sum h1]
      have un' := un (i + 1)
      generalize hg : u.getD i 0 = a at ha h ⊢
      by_cases hx : s + a ≤ 9223372036854775807
      · rw [decide_eq_true hx, cond_true] at h
        rw [rounds_next h, ih (i + 1) k (s + a) (by omega) (by omega)]
        have e : s + a + (u.drop (i + 1)).sum + (d.drop k).sum = s + (a + (u.drop (i + 1)).sum) + (d.drop k).sum := by omega
        rw [e]
      · rw [decide_eq_false hx, cond_false] at h
        have h3 : d.length ≤ k := by rcases h2 with h2 | h2 <;> omega
        have e : (d.drop k).sum = 0 := by rw [List.drop_eq_nil_of_le h3]; rfl
        have nf : fits (s + (a + (u.drop (i + 1)).sum) + (d.drop k).sum) = false := by
          rw [e]
          unfold fits
          rw [decide_eq_false (p := s + (a + (u.drop (i + 1)).sum) + 0 ≤ 9223372036854775807) (by omega), Bool.and_false]
        rw [rounds_end h, nf]; rfl
    · have h1 : k < d.length := by
        by_cases hi : i < u.length
        · by_cases hk : k < d.length
          · exact hk
          · exact absurd ⟨hi, .inl (by omega)⟩ hc
        · omega
      have h2 : ¬ (i < u.length ∧ s < 0) := fun h => hc ⟨h.1, .inr h.2⟩
      have ha := hda (d.getD k 0) (by rw [getD_at h1]; exact List.getElem_mem h1)
      have h := sum_down h1 hd h2 ha hs
      rw [drop_sum h1]
      have dn' := dn (k + 1)
      generalize hg : d.getD k 0 = a at ha h ⊢
      by_cases hx : -9223372036854775808 ≤ s + a
      · rw [decide_eq_true hx, cond_true] at h
        rw [rounds_next h, ih i (k + 1) (s + a) (by omega) (by omega)]
        have e : s + a + (u.drop i).sum + (d.drop (k + 1)).sum = s + (u.drop i).sum + (a + (d.drop (k + 1)).sum) := by omega
        rw [e]
      · rw [decide_eq_false hx, cond_false] at h
        have h3 : u.length ≤ i := by
          by_cases hi : i < u.length
          · have : ¬ s < 0 := fun hs => h2 ⟨hi, hs⟩
            omega
          · omega
        have e : (u.drop i).sum = 0 := by rw [List.drop_eq_nil_of_le h3]; rfl
        have nf : fits (s + (u.drop i).sum + (a + (d.drop (k + 1)).sum)) = false := by
          rw [e]
          unfold fits
          rw [decide_eq_false (p := -9223372036854775808 ≤ s + 0 + (a + (d.drop (k + 1)).sum)) (by omega), Bool.false_and]
        rw [rounds_end h, nf]; rfl
/-- the document's sum -/
def sumR (n : Int) : Int × Bool := bif fits n then (n, true) else (0, false)
theorem ref_Sum_is {l : List Int} (hs : l.length ≤ 17592186044415) (ha : Amounts l) : bursarref01_Sum.f l = some (sumR l.sum) := by
  have hu := ups_len l
  have hd := downs_len l
  have h := mix_is (u := ups l) (d := downs l) (by omega) (by omega) (fun a h => by
    have h' := List.mem_filter.1 h
    have := ha a h'.1
    have := h'.2
    simp only [decide_eq_true_eq] at this
    omega) (fun a h => by
    have h' := List.mem_filter.1 h
    have := ha a h'.1
    have := h'.2
    simp at this
    omega) _ 0 0 0 rfl (by omega)
  unfold bursarref01_Sum.f
  rw [split_is hs, Option.bind_some]
  rw [show ((0 : Nat) : Int) = 0 from rfl] at h
  rw [h, Option.bind_some, List.drop_zero, List.drop_zero, show 0 + (ups l).sum + (downs l).sum = l.sum by have := ups_sum l; omega]
  unfold sumR
  cases fits l.sum <;> rfl
end Go.Proofs.Ytloambokbipnjaa
end
section
/- The Go function hold.Held, as a Lean function, and that it is this one. Written by a program of this session. -/
set_option linter.unusedVariables false
set_option maxRecDepth 100000
namespace Go.Proofs.Ytloambokbipnjaa
open Go Go.Fw
abbrev hold_Held.As : Shs := (.cons (.x (.l T_api_Hold)) (.cons (.x .s) .nil))
abbrev hold_Held.m : Back := [(false, (.i .i64)), (false, (.i .i64))]
noncomputable abbrev hold_Held.H : HK := hk P G0 E0 [hold_May.row, hold_Left.row, money_Sum.row] noLoops 4
theorem hold_Held.hok : HKOK P hold_Held.H := hk_ok e0_ok (rows_ok (ws := [hold_May.row, hold_Left.row, money_Sum.row]) ⟨hold_May.row_ok, ⟨hold_Left.row_ok, ⟨money_Sum.row_ok, trivial⟩⟩⟩) (fun g n => noLoops_ok g n) 4
abbrev hold_Held.sh4 : SSh := ⟨[(1, (.x .s)), (6, (.own 0 1)), (9, (.x (.l T_api_Hold))), (10, (.x (.i .i64))), (11, (.x (.i .i64)))], [.arrN (.i .i64)]⟩
abbrev hold_Held.os4 : PEnds := [(.ret, ⟨[(4, (.x (.i .i64))), (5, (.x (.i .i64)))], []⟩), ((.exit 0), ⟨[(6, (.x (.l (.i .i64))))], []⟩)]
noncomputable def hold_Held.t4 (s : (ByteArray × ((List (ByteArray × (ByteArray × (ByteArray × (Int × (Int × (Int × Bool))))))) × (Int × (Int × (List Int)))))) : Option ((ByteArray × ((List (ByteArray × (ByteArray × (ByteArray × (Int × (Int × (Int × Bool))))))) × (Int × (Int × (List Int))))) ⊕ ((Int × Int) ⊕ (List Int))) := (bif (decide ((s.2.2.2.1 < s.2.2.1))) then (bif ((decide (((0 : Int) ≤ s.2.2.2.1))) && (decide ((s.2.2.2.1 < ((List.length s.2.1) : Int))))) then (((hold_May.f (List.getD s.2.1 (Int.toNat s.2.2.2.1) (Ty.dflt T_api_Hold)))).bind fun (x6 : Bool) => (bif (!x6) then (some (.inr (.inl ((0 : Int), (1 : Int))))) else (bif ((ByteArray.toList (List.getD s.2.1 (Int.toNat s.2.2.2.1) (Ty.dflt T_api_Hold)).2.2.1) == (ByteArray.toList s.1)) then (((hold_Left.f (List.getD s.2.1 (Int.toNat s.2.2.2.1) (Ty.dflt T_api_Hold)))).bind fun (x7 : Int) => (bif ((true && (Nat.ble (((List.length s.2.2.2.2) + (List.length (x7 :: []))) * 8) 140737488355328)) && (Nat.ble ((List.length s.2.2.2.2) + (List.length (x7 :: []))) 140737488355328)) then (some (.inl (s.1, (s.2.1, (s.2.2.1, ((IntKind.wrap .i64 (s.2.2.2.1 + (1 : Int))), (s.2.2.2.2 ++ (x7 :: [])))))))) else none)) else (some (.inl (s.1, (s.2.1, (s.2.2.1, ((IntKind.wrap .i64 (s.2.2.2.1 + (1 : Int))), s.2.2.2.2))))))))) else none) else (some (.inr (.inr s.2.2.2.2))))
theorem hold_Held.t4_ok : ∀ s : Vals hold_Held.sh4.tys, turnK P hold_Held.H (lp []) (bodyAt (codeOf P 15) 4) 0 hold_Held.sh4 hold_Held.os4 s some = hold_Held.t4 s := by rintro ⟨s0, s1, s2, s3, s4⟩; cases s4 <;> kernel_rfl
noncomputable def hold_Held.l4 : (ByteArray × ((List (ByteArray × (ByteArray × (ByteArray × (Int × (Int × (Int × Bool))))))) × (Int × (Int × (List Int))))) → Option ((Int × Int) ⊕ (List Int)) := rounds hold_Held.t4
noncomputable def hold_Held.f (a : ((List (ByteArray × (ByteArray × (ByteArray × (Int × (Int × (Int × Bool))))))) × ByteArray)) : Option (Int × Int) := (((hold_Held.l4 (a.2, (a.1, (((List.length a.1) : Int), ((0 : Int), [])))))).bind fun (x2 : ((Int × Int) ⊕ (List Int))) => (match x2 with | .inl x3 => (some x3) | .inr x3 => (((money_Sum.f x3)).bind fun (x4 : (Int × Int)) => (some x4))))
theorem hold_Held.ok : ∀ a : Vals hold_Held.As.tys, fnK P hold_Held.H (lp [(4, NodeT.summ ⟨hold_Held.sh4, hold_Held.os4, hold_Held.l4⟩ 0)]) 15 hold_Held.As hold_Held.m a some = hold_Held.f a := fun a => by kernel_rfl
noncomputable abbrev hold_Held.row : Row := fnRow 15 hold_Held.As hold_Held.m hold_Held.f
theorem hold_Held.row_ok : RowOK P G0 hold_Held.row := row_told hold_Held.hok (lp_of (l := [(4, NodeT.summ ⟨hold_Held.sh4, hold_Held.os4, hold_Held.l4⟩ 0)]) ⟨loop_sum hold_Held.hok (by kernel_rfl) (by kernel_rfl) (l := []) trivial hold_Held.sh4 hold_Held.os4 (by kernel_rfl) hold_Held.t4 hold_Held.t4_ok, trivial⟩) (fun _ => rfl) hold_Held.ok
end Go.Proofs.Ytloambokbipnjaa
end
section
/- The Go function bursarref14.Held, as a Lean function, and that it is this one. Written by a program of this session. -/
set_option linter.unusedVariables false
set_option maxRecDepth 100000
namespace Go.Proofs.Ytloambokbipnjaa
open Go Go.Fw
abbrev bursarref14_Held.As : Shs := (.cons (.x (.l T_api_Hold)) (.cons (.x .s) .nil))
abbrev bursarref14_Held.m : Back := [(false, (.i .i64)), (false, (.i .i64))]
noncomputable abbrev bursarref14_Held.H : HK := hk P G0 E0 [bursarref14_May.row, bursarref14_Left.row, bursarref01_Sum.row] noLoops 4
theorem bursarref14_Held.hok : HKOK P bursarref14_Held.H := hk_ok e0_ok (rows_ok (ws := [bursarref14_May.row, bursarref14_Left.row, bursarref01_Sum.row]) ⟨bursarref14_May.row_ok, ⟨bursarref14_Left.row_ok, ⟨bursarref01_Sum.row_ok, trivial⟩⟩⟩) (fun g n => noLoops_ok g n) 4
abbrev bursarref14_Held.sh4 : SSh := ⟨[(0, (.x (.l T_api_Hold))), (1, (.x .s)), (6, (.own 0 1)), (7, (.x (.i .i64)))], [.arrN (.i .i64)]⟩
abbrev bursarref14_Held.os4 : PEnds := [(.ret, ⟨[(4, (.x (.i .i64))), (5, (.x (.i .i64)))], []⟩), ((.exit 0), ⟨[(6, (.x (.l (.i .i64))))], []⟩)]
noncomputable def bursarref14_Held.t4 (s : ((List (ByteArray × (ByteArray × (ByteArray × (Int × (Int × (Int × Bool))))))) × (ByteArray × (Int × (List Int))))) : Option (((List (ByteArray × (ByteArray × (ByteArray × (Int × (Int × (Int × Bool))))))) × (ByteArray × (Int × (List Int)))) ⊕ ((Int × Int) ⊕ (List Int))) := (bif (decide ((s.2.2.1 < ((List.length s.1) : Int)))) then (bif ((decide (((0 : Int) ≤ s.2.2.1))) && (decide ((s.2.2.1 < ((List.length s.1) : Int))))) then (((bursarref14_May.f (List.getD s.1 (Int.toNat s.2.2.1) (Ty.dflt T_api_Hold)))).bind fun (x5 : Bool) => (bif (!x5) then (some (.inr (.inl ((0 : Int), (1 : Int))))) else (bif ((decide (((0 : Int) ≤ s.2.2.1))) && (decide ((s.2.2.1 < ((List.length s.1) : Int))))) then (bif ((ByteArray.toList (List.getD s.1 (Int.toNat s.2.2.1) (Ty.dflt T_api_Hold)).2.2.1) == (ByteArray.toList s.2.1)) then (bif ((decide (((0 : Int) ≤ s.2.2.1))) && (decide ((s.2.2.1 < ((List.length s.1) : Int))))) then (((bursarref14_Left.f (List.getD s.1 (Int.toNat s.2.2.1) (Ty.dflt T_api_Hold)))).bind fun (x6 : Int) => (bif ((true && (Nat.ble (((List.length s.2.2.2) + (List.length (x6 :: []))) * 8) 140737488355328)) && (Nat.ble ((List.length s.2.2.2) + (List.length (x6 :: []))) 140737488355328)) then (some (.inl (s.1, (s.2.1, ((IntKind.wrap .i64 (s.2.2.1 + (1 : Int))), (s.2.2.2 ++ (x6 :: []))))))) else none)) else none) else (some (.inl (s.1, (s.2.1, ((IntKind.wrap .i64 (s.2.2.1 + (1 : Int))), s.2.2.2)))))) else none))) else none) else (some (.inr (.inr s.2.2.2))))
theorem bursarref14_Held.t4_ok : ∀ s : Vals bursarref14_Held.sh4.tys, turnK P bursarref14_Held.H (lp []) (bodyAt (codeOf P 16) 4) 0 bursarref14_Held.sh4 bursarref14_Held.os4 s some = bursarref14_Held.t4 s := by rintro ⟨s0, s1, s2, s3⟩; cases s3 <;> kernel_rfl
noncomputable def bursarref14_Held.l4 : ((List (ByteArray × (ByteArray × (ByteArray × (Int × (Int × (Int × Bool))))))) × (ByteArray × (Int × (List Int)))) → Option ((Int × Int) ⊕ (List Int)) := rounds bursarref14_Held.t4
noncomputable def bursarref14_Held.f (a : ((List (ByteArray × (ByteArray × (ByteArray × (Int × (Int × (Int × Bool))))))) × ByteArray)) : Option (Int × Int) := (((bursarref14_Held.l4 (a.1, (a.2, ((0 : Int), []))))).bind fun (x2 : ((Int × Int) ⊕ (List Int))) => (match x2 with | .inl x3 => (some x3) | .inr x3 => (((bursarref01_Sum.f x3)).bind fun (x4 : (Int × Bool)) => (bif (!x4.2) then (some ((0 : Int), (2 : Int))) else (some (x4.1, (0 : Int)))))))
theorem bursarref14_Held.ok : ∀ a : Vals bursarref14_Held.As.tys, fnK P bursarref14_Held.H (lp [(4, NodeT.summ ⟨bursarref14_Held.sh4, bursarref14_Held.os4, bursarref14_Held.l4⟩ 0)]) 16 bursarref14_Held.As bursarref14_Held.m a some = bursarref14_Held.f a := fun a => by kernel_rfl
noncomputable abbrev bursarref14_Held.row : Row := fnRow 16 bursarref14_Held.As bursarref14_Held.m bursarref14_Held.f
theorem bursarref14_Held.row_ok : RowOK P G0 bursarref14_Held.row := row_told bursarref14_Held.hok (lp_of (l := [(4, NodeT.summ ⟨bursarref14_Held.sh4, bursarref14_Held.os4, bursarref14_Held.l4⟩ 0)]) ⟨loop_sum bursarref14_Held.hok (by kernel_rfl) (by kernel_rfl) (l := []) trivial bursarref14_Held.sh4 bursarref14_Held.os4 (by kernel_rfl) bursarref14_Held.t4 bursarref14_Held.t4_ok, trivial⟩) (fun _ => rfl) bursarref14_Held.ok
end Go.Proofs.Ytloambokbipnjaa
end
section
/- What is held on a card: what the code and the document's answer compute. By this session. -/
set_option linter.unusedVariables false
set_option linter.unusedSimpArgs false
namespace Go.Proofs.Ytloambokbipnjaa
open Go Go.Fw
def onB (pan : ByteArray) (h : Hd) : Bool := h.2.2.1.toList == pan.toList
def lefts (pan : ByteArray) (l : List Hd) : List Int := (l.filter (onB pan)).map leftI
theorem lefts_len (pan : ByteArray) (l : List Hd) : (lefts pan l).length ≤ l.length := by
  unfold lefts
  rw [List.length_map]
  exact List.length_filter_le _ _
theorem lefts_up {pan : ByteArray} {l : List Hd} {i : Nat} (hi : i < l.length) (d : Hd) : lefts pan (l.take (i + 1)) = bif onB pan (l.getD i d) then lefts pan (l.take i) ++ [leftI (l.getD i d)] else lefts pan (l.take i) := by
  unfold lefts
  rw [take_up d hi, List.filter_append]
  cases h : onB pan (l.getD i d) with
  | false => rw [List.filter_cons_of_neg (by simp only [h]; simp), List.filter_nil, List.append_nil]; rfl
  | true => rw [List.filter_cons_of_pos h, List.filter_nil, List.map_append]; rfl
/-- holds as they may be read -/
def Read (h : Hd) : Prop := h.1.size ≤ 4611686018427387904 ∧ h.2.2.2.1 ≤ 9223372036854775807
def Reads (l : List Hd) : Prop := ∀ h ∈ l, Read h
theorem Reads.at {l : List Hd} (h : Reads l) {i : Nat} (hi : i < l.length) (d : Hd) : Read (l.getD i d) := by
  rw [getD_at hi]
  exact h _ (List.getElem_mem hi)
def heldS (pan : ByteArray) (l : List Hd) : Int × Int := bif l.all mayB then sumS (lefts pan l).sum else (0, 1)
theorem lefts_amounts {pan : ByteArray} {l : List Hd} (hr : Reads l) (hm : l.all mayB = true) : Amounts (lefts pan l) := by
  intro a ha
  unfold lefts at ha
  obtain ⟨h, hh, rfl⟩ := List.mem_map.1 ha
  have hl := (List.mem_filter.1 hh).1
  have := left_range (List.all_eq_true.1 hm h hl) (hr h hl).2
  omega
abbrev hd0 : Hd := Ty.dflt T_api_Hold
theorem hold_Held_is {l : List Hd} {pan : ByteArray} (hl : l.length ≤ 17592186044415) (hr : Reads l) : hold_Held.f (l, pan) = some (heldS pan l) := by
  have h := rounds_all (t := hold_Held.t4) (fun i => (pan, (l, ((l.length : Int), ((i : Int), lefts pan (l.take i)))))) (fun i => mayB (l.getD i hd0)) (.inl (0, 1)) (.inr (lefts pan l)) l.length (fun i hi => by
    have h2 := wrap_up (n := i) (by omega)
    have hu := lefts_len pan (l.take i)
    rw [List.length_take] at hu
    have d1 : decide ((i : Int) < (l.length : Int)) = true := decide_eq_true (by omega)
    have d3 : decide ((0 : Int) ≤ (i : Int)) = true := decide_eq_true (by omega)
    have ha := hr.at hi hd0
    simp only [hold_Held.t4, Int.toNat_natCast, h2, d1, d3, Bool.and_self, cond_true]
    rw [lefts_up hi hd0]
    have e : (List.getD l i (Ty.dflt T_api_Hold) : Hd) = l.getD i hd0 := rfl
    simp only [e]
    obtain ⟨x, hx⟩ : ∃ x, l.getD i hd0 = x := ⟨_, rfl⟩
    simp only [hx] at ha ⊢
    rw [hold_May_is x ha.1]
    cases hm : mayB x with
    | false => rfl
    | true =>
      rw [hold_Left_is ha.1 hm ha.2]
      have b1 : Nat.ble ((List.length (lefts pan (l.take i)) + List.length [leftI x]) * 8) 140737488355328 = true := room (m := 17592186044415) 8 _ (by omega) (by decide)
      have b2 : Nat.ble (List.length (lefts pan (l.take i)) + List.length [leftI x]) 140737488355328 = true := Nat.ble_eq_true_of_le (by simp only [List.length_cons, List.length_nil]; omega)
      simp only [Option.bind_some, b1, b2, Bool.and_self, Bool.not_true, cond_true, cond_false]
      show (bif onB pan x then _ else _) = _
      cases onB pan x <;> rfl) (by
    simp only [hold_Held.t4, show decide ((l.length : Int) < (l.length : Int)) = false from decide_eq_false (by omega), cond_false, List.take_length])
  unfold hold_Held.f hold_Held.l4
  have h0 : (pan, (l, ((l.length : Int), ((0 : Int), ([] : List Int))))) = (pan, (l, ((l.length : Int), (((0 : Nat) : Int), lefts pan (l.take 0))))) := rfl
  rw [h0, h, range_all mayB hd0]
  unfold heldS
  cases hm : l.all mayB with
  | false => rfl
  | true =>
    have := lefts_len pan l
    simp only [cond_true, Option.bind_some, money_Sum_is (l := lefts pan l) (by omega) (lefts_amounts hr hm)]
theorem ref_Held_is {l : List Hd} {pan : ByteArray} (hl : l.length ≤ 17592186044415) (hr : Reads l) : bursarref14_Held.f (l, pan) = some (heldS pan l) := by
  have h := rounds_all (t := bursarref14_Held.t4) (fun i => (l, (pan, ((i : Int), lefts pan (l.take i))))) (fun i => mayB (l.getD i hd0)) (.inl (0, 1)) (.inr (lefts pan l)) l.length (fun i hi => by
    have h2 := wrap_up (n := i) (by omega)
    have hu := lefts_len pan (l.take i)
    rw [List.length_take] at hu
    have d1 : decide ((i : Int) < (l.length : Int)) = true := decide_eq_true (by omega)
    have d3 : decide ((0 : Int) ≤ (i : Int)) = true := decide_eq_true (by omega)
    have ha := hr.at hi hd0
    simp only [bursarref14_Held.t4, Int.toNat_natCast, h2, d1, d3, Bool.and_self, cond_true]
    rw [lefts_up hi hd0]
    have e : (List.getD l i (Ty.dflt T_api_Hold) : Hd) = l.getD i hd0 := rfl
    simp only [e]
    obtain ⟨x, hx⟩ : ∃ x, l.getD i hd0 = x := ⟨_, rfl⟩
    simp only [hx] at ha ⊢
    rw [ref_May_is x]
    cases hm : mayB x with
    | false => rfl
    | true =>
      rw [ref_Left_is hm ha.2]
      have b1 : Nat.ble ((List.length (lefts pan (l.take i)) + List.length [leftI x]) * 8) 140737488355328 = true := room (m := 17592186044415) 8 _ (by omega) (by decide)
      have b2 : Nat.ble (List.length (lefts pan (l.take i)) + List.length [leftI x]) 140737488355328 = true := Nat.ble_eq_true_of_le (by simp only [List.length_cons, List.length_nil]; omega)
      simp only [Option.bind_some, b1, b2, Bool.and_self, Bool.not_true, cond_true, cond_false]
      show (bif onB pan x then _ else _) = _
      cases onB pan x <;> rfl) (by
    simp only [bursarref14_Held.t4, show decide ((l.length : Int) < (l.length : Int)) = false from decide_eq_false (by omega), cond_false, List.take_length])
  unfold bursarref14_Held.f bursarref14_Held.l4
  have h0 : (l, (pan, ((0 : Int), ([] : List Int)))) = (l, (pan, (((0 : Nat) : Int), lefts pan (l.take 0)))) := rfl
  rw [h0, h, range_all mayB hd0]
  unfold heldS
  cases hm : l.all mayB with
  | false => rfl
  | true =>
    have := lefts_len pan l
    simp only [cond_true, Option.bind_some, ref_Sum_is (l := lefts pan l) (by omega) (lefts_amounts hr hm)]
    unfold sumR sumS
    cases fits (lefts pan l).sum <;> rfl
end Go.Proofs.Ytloambokbipnjaa
end
section
/- The Go function bursarlaw14.text, as a Lean function, and that it is this one. Written by a program of this session. -/
set_option linter.unusedVariables false
set_option maxRecDepth 100000
namespace Go.Proofs.Ytloambokbipnjaa
open Go Go.Fw
abbrev bursarlaw14_text.As : Shs := (.cons (.x .s) .nil)
abbrev bursarlaw14_text.m : Back := [(false, .s)]
noncomputable abbrev bursarlaw14_text.H : HK := hk P G0 E0 [] noLoops 4
theorem bursarlaw14_text.hok : HKOK P bursarlaw14_text.H := hk_ok e0_ok (rows_ok (ws := []) trivial) (fun g n => noLoops_ok g n) 4
noncomputable def bursarlaw14_text.f (a : ByteArray) : Option ByteArray := (bif (decide (((a.size : Int) > (30 : Int)))) then (bif (true && (decide (((30 : Int) ≤ (a.size : Int))))) then (some (ByteArray.extract a 0 30)) else none) else (some a))
theorem bursarlaw14_text.ok : ∀ a : Vals bursarlaw14_text.As.tys, fnK P bursarlaw14_text.H (lp []) 14 bursarlaw14_text.As bursarlaw14_text.m a some = bursarlaw14_text.f a := fun a => by kernel_rfl
noncomputable abbrev bursarlaw14_text.row : Row := fnRow 14 bursarlaw14_text.As bursarlaw14_text.m bursarlaw14_text.f
theorem bursarlaw14_text.row_ok : RowOK P G0 bursarlaw14_text.row := row_told bursarlaw14_text.hok (lp_of (l := []) trivial) (fun _ => rfl) bursarlaw14_text.ok
end Go.Proofs.Ytloambokbipnjaa
end
section
/- The Go function bursarlaw14.Few, as a Lean function, and that it is this one. Written by a program of this session. -/
set_option linter.unusedVariables false
set_option maxRecDepth 100000
namespace Go.Proofs.Ytloambokbipnjaa
open Go Go.Fw
abbrev bursarlaw14_Few.As : Shs := (.cons (.x T_api_Hold) .nil)
abbrev bursarlaw14_Few.m : Back := [(false, T_api_Hold)]
noncomputable abbrev bursarlaw14_Few.H : HK := hk P G0 E0 [bursarlaw14_text.row] noLoops 4
theorem bursarlaw14_Few.hok : HKOK P bursarlaw14_Few.H := hk_ok e0_ok (rows_ok (ws := [bursarlaw14_text.row]) ⟨bursarlaw14_text.row_ok, trivial⟩) (fun g n => noLoops_ok g n) 4
noncomputable def bursarlaw14_Few.f (a : (ByteArray × (ByteArray × (ByteArray × (Int × (Int × (Int × Bool))))))) : Option (ByteArray × (ByteArray × (ByteArray × (Int × (Int × (Int × Bool)))))) := (((bursarlaw14_text.f a.1)).bind fun (x1 : ByteArray) => (((bursarlaw14_text.f a.2.1)).bind fun (x2 : ByteArray) => (((bursarlaw14_text.f a.2.2.1)).bind fun (x3 : ByteArray) => (some (x1, (x2, (x3, a.2.2.2)))))))
theorem bursarlaw14_Few.ok : ∀ a : Vals bursarlaw14_Few.As.tys, fnK P bursarlaw14_Few.H (lp []) 9 bursarlaw14_Few.As bursarlaw14_Few.m a some = bursarlaw14_Few.f a := fun a => by kernel_rfl
noncomputable abbrev bursarlaw14_Few.row : Row := fnRow 9 bursarlaw14_Few.As bursarlaw14_Few.m bursarlaw14_Few.f
theorem bursarlaw14_Few.row_ok : RowOK P G0 bursarlaw14_Few.row := row_told bursarlaw14_Few.hok (lp_of (l := []) trivial) (fun _ => rfl) bursarlaw14_Few.ok
end Go.Proofs.Ytloambokbipnjaa
end
section
/- The Go function bursarlaw14.awake, as a Lean function, and that it is this one. Written by a program of this session. -/
set_option linter.unusedVariables false
set_option maxRecDepth 100000
namespace Go.Proofs.Ytloambokbipnjaa
open Go Go.Fw
abbrev bursarlaw14_awake.row : Row := closedRow 12 (.b true)
theorem bursarlaw14_awake.row_ok : RowOK P G0 bursarlaw14_awake.row := closed_ok e0_ok 60 (by kernel_rfl)
end Go.Proofs.Ytloambokbipnjaa
end
section
/- The Go function bursarlaw14.HoldSums, as a Lean function, and that it is this one. Written by a program of this session. -/
set_option linter.unusedVariables false
set_option maxRecDepth 100000
namespace Go.Proofs.Ytloambokbipnjaa
open Go Go.Fw
abbrev bursarlaw14_HoldSums.As : Shs := (.cons (.x (.l T_api_Hold)) (.cons (.x .s) .nil))
abbrev bursarlaw14_HoldSums.m : Back := [(false, .b)]
noncomputable abbrev bursarlaw14_HoldSums.H : HK := hk P G0 E0 [bursarlaw14_Few.row, bursarlaw14_awake.row, bursarlaw14_text.row, hold_Held.row, bursarref14_Held.row] noLoops 4
theorem bursarlaw14_HoldSums.hok : HKOK P bursarlaw14_HoldSums.H := hk_ok e0_ok (rows_ok (ws := [bursarlaw14_Few.row, bursarlaw14_awake.row, bursarlaw14_text.row, hold_Held.row, bursarref14_Held.row]) ⟨bursarlaw14_Few.row_ok, ⟨bursarlaw14_awake.row_ok, ⟨bursarlaw14_text.row_ok, ⟨hold_Held.row_ok, ⟨bursarref14_Held.row_ok, trivial⟩⟩⟩⟩⟩) (fun g n => noLoops_ok g n) 4
abbrev bursarlaw14_HoldSums.sh7 : SSh := ⟨[(0, (.x (.l T_api_Hold))), (1, (.x .s)), (5, (.own 0 7)), (6, (.x (.i .i64)))], [.arrN T_api_Hold]⟩
abbrev bursarlaw14_HoldSums.os7 : PEnds := [((.exit 0), ⟨[(1, (.x .s)), (5, (.x (.l T_api_Hold)))], []⟩)]
noncomputable def bursarlaw14_HoldSums.t7 (s : ((List (ByteArray × (ByteArray × (ByteArray × (Int × (Int × (Int × Bool))))))) × (ByteArray × (Int × (List (ByteArray × (ByteArray × (ByteArray × (Int × (Int × (Int × Bool))))))))))) : Option (((List (ByteArray × (ByteArray × (ByteArray × (Int × (Int × (Int × Bool))))))) × (ByteArray × (Int × (List (ByteArray × (ByteArray × (ByteArray × (Int × (Int × (Int × Bool)))))))))) ⊕ ((ByteArray × (List (ByteArray × (ByteArray × (ByteArray × (Int × (Int × (Int × Bool)))))))))) := (bif (decide ((s.2.2.1 < ((List.length s.1) : Int)))) then (bif ((decide (((0 : Int) ≤ s.2.2.1))) && (decide ((s.2.2.1 < ((List.length s.1) : Int))))) then (((bursarlaw14_Few.f (List.getD s.1 (Int.toNat s.2.2.1) (Ty.dflt T_api_Hold)))).bind fun (x5 : (ByteArray × (ByteArray × (ByteArray × (Int × (Int × (Int × Bool))))))) => (bif ((true && (Nat.ble (((List.length s.2.2.2) + (List.length (x5 :: []))) * 80) 140737488355328)) && (Nat.ble ((List.length s.2.2.2) + (List.length (x5 :: []))) 140737488355328)) then (some (.inl (s.1, (s.2.1, ((IntKind.wrap .i64 (s.2.2.1 + (1 : Int))), (s.2.2.2 ++ (x5 :: []))))))) else none)) else none) else (some (.inr (s.2.1, s.2.2.2))))
theorem bursarlaw14_HoldSums.t7_ok : ∀ s : Vals bursarlaw14_HoldSums.sh7.tys, turnK P bursarlaw14_HoldSums.H (lp []) (bodyAt (codeOf P 4) 7) 0 bursarlaw14_HoldSums.sh7 bursarlaw14_HoldSums.os7 s some = bursarlaw14_HoldSums.t7 s := by rintro ⟨s0, s1, s2, s3⟩; cases s3 <;> kernel_rfl
noncomputable def bursarlaw14_HoldSums.l7 : ((List (ByteArray × (ByteArray × (ByteArray × (Int × (Int × (Int × Bool))))))) × (ByteArray × (Int × (List (ByteArray × (ByteArray × (ByteArray × (Int × (Int × (Int × Bool)))))))))) → Option ((ByteArray × (List (ByteArray × (ByteArray × (ByteArray × (Int × (Int × (Int × Bool))))))))) := rounds bursarlaw14_HoldSums.t7
noncomputable def bursarlaw14_HoldSums.f (a : ((List (ByteArray × (ByteArray × (ByteArray × (Int × (Int × (Int × Bool))))))) × ByteArray)) : Option Bool := (bif (decide ((((List.length a.1) : Int) > (30 : Int)))) then (bif (true && (decide (((30 : Int) ≤ ((List.length a.1) : Int))))) then (((bursarlaw14_HoldSums.l7 ((List.take 30 (List.drop 0 a.1)), (a.2, ((0 : Int), []))))).bind fun (x2 : (ByteArray × (List (ByteArray × (ByteArray × (ByteArray × (Int × (Int × (Int × Bool))))))))) => (((bursarlaw14_text.f x2.1)).bind fun (x3 : ByteArray) => (((hold_Held.f (x2.2, x3))).bind fun (x4 : (Int × Int)) => (((bursarref14_Held.f (x2.2, x3))).bind fun (x5 : (Int × Int)) => (bif (x4.1 == x5.1) then (bif (x4.2 == x5.2) then (some true) else (some false)) else (some false)))))) else none) else (((bursarlaw14_HoldSums.l7 (a.1, (a.2, ((0 : Int), []))))).bind fun (x2 : (ByteArray × (List (ByteArray × (ByteArray × (ByteArray × (Int × (Int × (Int × Bool))))))))) => (((bursarlaw14_text.f x2.1)).bind fun (x3 : ByteArray) => (((hold_Held.f (x2.2, x3))).bind fun (x4 : (Int × Int)) => (((bursarref14_Held.f (x2.2, x3))).bind fun (x5 : (Int × Int)) => (bif (x4.1 == x5.1) then (bif (x4.2 == x5.2) then (some true) else (some false)) else (some false)))))))
theorem bursarlaw14_HoldSums.ok : ∀ a : Vals bursarlaw14_HoldSums.As.tys, fnK P bursarlaw14_HoldSums.H (lp [(7, NodeT.summ ⟨bursarlaw14_HoldSums.sh7, bursarlaw14_HoldSums.os7, bursarlaw14_HoldSums.l7⟩ 0)]) 4 bursarlaw14_HoldSums.As bursarlaw14_HoldSums.m a some = bursarlaw14_HoldSums.f a := fun a => by kernel_rfl
noncomputable abbrev bursarlaw14_HoldSums.row : Row := fnRow 4 bursarlaw14_HoldSums.As bursarlaw14_HoldSums.m bursarlaw14_HoldSums.f
theorem bursarlaw14_HoldSums.row_ok : RowOK P G0 bursarlaw14_HoldSums.row := row_told bursarlaw14_HoldSums.hok (lp_of (l := [(7, NodeT.summ ⟨bursarlaw14_HoldSums.sh7, bursarlaw14_HoldSums.os7, bursarlaw14_HoldSums.l7⟩ 0)]) ⟨loop_sum bursarlaw14_HoldSums.hok (by kernel_rfl) (by kernel_rfl) (l := []) trivial bursarlaw14_HoldSums.sh7 bursarlaw14_HoldSums.os7 (by kernel_rfl) bursarlaw14_HoldSums.t7 bursarlaw14_HoldSums.t7_ok, trivial⟩) (fun _ => rfl) bursarlaw14_HoldSums.ok
end Go.Proofs.Ytloambokbipnjaa
end
section
/- HoldSums: what the code computes is true, for all holds. By this session. -/
set_option linter.unusedVariables false
set_option linter.unusedSimpArgs false
namespace Go.Proofs.Ytloambokbipnjaa
open Go Go.Fw
def cut (s : ByteArray) : ByteArray := bif decide (s.size > 30) then s.extract 0 30 else s
theorem cut_size (s : ByteArray) : (cut s).size ≤ 30 := by
  unfold cut
  by_cases h : s.size > 30
  · rw [decide_eq_true h, cond_true, ByteArray.size_extract]; omega
  · rw [decide_eq_false h, cond_false]; omega
theorem text_is (s : ByteArray) : bursarlaw14_text.f s = some (cut s) := by
  unfold bursarlaw14_text.f cut
  by_cases h : s.size > 30
  · rw [decide_eq_true h, show decide ((s.size : Int) > 30) = true from decide_eq_true (by omega), show decide ((30 : Int) ≤ (s.size : Int)) = true from decide_eq_true (by omega)]; rfl
  · rw [decide_eq_false h, show decide ((s.size : Int) > 30) = false from decide_eq_false (by omega)]; rfl
def few (h : Hd) : Hd := (cut h.1, (cut h.2.1, (cut h.2.2.1, h.2.2.2)))
theorem few_is (h : Hd) : bursarlaw14_Few.f h = some (few h) := by
  unfold bursarlaw14_Few.f
  rw [text_is, text_is, text_is]; rfl
theorem fews_is {l : List Hd} (pan : ByteArray) (hl : l.length ≤ 30) : bursarlaw14_HoldSums.l7 (l, (pan, ((0 : Int), []))) = some (pan, l.map few) := by
  have h := rounds_to (t := bursarlaw14_HoldSums.t7) (fun i => (l, (pan, ((i : Int), (l.take i).map few)))) l.length (fun i hi => by
    have h2 := wrap_up (n := i) (by omega)
    have d1 : decide ((i : Int) < (l.length : Int)) = true := decide_eq_true (by omega)
    have d3 : decide ((0 : Int) ≤ (i : Int)) = true := decide_eq_true (by omega)
    simp only [bursarlaw14_HoldSums.t7, Int.toNat_natCast, h2, d1, d3, Bool.and_self, cond_true]
    rw [take_up hd0 hi]
    have e : (List.getD l i (Ty.dflt T_api_Hold) : Hd) = l.getD i hd0 := rfl
    simp only [e]
    rw [few_is]
    have hlen : ((l.take i).map few).length ≤ 30 := by rw [List.length_map, List.length_take]; omega
    have b1 : ∀ x : Hd, Nat.ble ((List.length ((l.take i).map few) + List.length [x]) * 80) 140737488355328 = true := fun x => room (m := 30) 80 _ hlen (by decide)
    have b2 : ∀ x : Hd, Nat.ble (List.length ((l.take i).map few) + List.length [x]) 140737488355328 = true := fun x => Nat.ble_eq_true_of_le (by simp only [List.length_cons, List.length_nil]; omega)
    simp only [Option.bind_some, b1, b2, Bool.and_self, cond_true, List.map_append, List.map_cons, List.map_nil])
  unfold bursarlaw14_HoldSums.l7
  have h0 : (l, (pan, ((0 : Int), ([] : List Hd)))) = (l, (pan, (((0 : Nat) : Int), (l.take 0).map few))) := rfl
  rw [h0, h, List.take_length, rounds_end (r := (pan, l.map few)) (by simp only [bursarlaw14_HoldSums.t7, show decide ((l.length : Int) < (l.length : Int)) = false from decide_eq_false (by omega), cond_false])]
theorem sums_core {l : List Hd} (pan : ByteArray) (hl : l.length ≤ 30) (hr : ∀ h ∈ l, h.2.2.2.1 ≤ 9223372036854775807) :
    (bursarlaw14_HoldSums.l7 (l, (pan, ((0 : Int), [])))).bind (fun x2 => (bursarlaw14_text.f x2.1).bind fun x3 => (hold_Held.f (x2.2, x3)).bind fun x4 => (bursarref14_Held.f (x2.2, x3)).bind fun x5 => bif x4.1 == x5.1 then (bif x4.2 == x5.2 then some true else some false) else some false) = some true := by
  have hrs : Reads (l.map few) := fun h hh => by
    obtain ⟨x, hx, rfl⟩ := List.mem_map.1 hh
    have := cut_size x.1
    exact ⟨show (cut x.1).size ≤ _ by omega, hr x hx⟩
  have hlen : (l.map few).length ≤ 17592186044415 := by rw [List.length_map]; omega
  rw [fews_is pan hl, Option.bind_some, text_is, Option.bind_some, hold_Held_is hlen hrs, ref_Held_is hlen hrs]
  simp only [Option.bind_some, beq_self_eq_true, cond_true]
theorem bursarlaw14_HoldSums_is (l : List Hd) (pan : ByteArray) (hr : ∀ h ∈ l, h.2.2.2.1 ≤ 9223372036854775807) : bursarlaw14_HoldSums.f (l, pan) = some true := by
  unfold bursarlaw14_HoldSums.f
  by_cases h : l.length > 30
  · have h30 : (List.take 30 (List.drop 0 l)).length ≤ 30 := by rw [List.length_take]; omega
    have := sums_core pan h30 fun x hx => hr x (List.mem_of_mem_drop (List.mem_of_mem_take hx))
    rw [show decide ((l.length : Int) > 30) = true from decide_eq_true (by omega), show decide ((30 : Int) ≤ (l.length : Int)) = true from decide_eq_true (by omega)]
    exact this
  · have := sums_core pan (show l.length ≤ 30 by omega) hr
    rw [show decide ((l.length : Int) > 30) = false from decide_eq_false (by omega)]
    exact this
end Go.Proofs.Ytloambokbipnjaa
end
section
/- The Go function hold.Take, as a Lean function, and that it is this one. Written by a program of this session. -/
set_option linter.unusedVariables false
set_option maxRecDepth 100000
namespace Go.Proofs.Ytloambokbipnjaa
open Go Go.Fw
abbrev hold_Take.As : Shs := (.cons (.x T_api_Hold) (.cons (.x (.i .i64)) (.cons (.x .b) .nil)))
abbrev hold_Take.m : Back := [(false, T_api_Hold), (false, (.i .i64))]
noncomputable abbrev hold_Take.H : HK := hk P G0 E0 [hold_May.row] noLoops 4
theorem hold_Take.hok : HKOK P hold_Take.H := hk_ok e0_ok (rows_ok (ws := [hold_May.row]) ⟨hold_May.row_ok, trivial⟩) (fun g n => noLoops_ok g n) 4
noncomputable def hold_Take.f (a : ((ByteArray × (ByteArray × (ByteArray × (Int × (Int × (Int × Bool)))))) × (Int × Bool))) : Option ((ByteArray × (ByteArray × (ByteArray × (Int × (Int × (Int × Bool)))))) × Int) := (((hold_May.f a.1)).bind fun (x3 : Bool) => (bif (!x3) then (some (((bs []), ((bs []), ((bs []), ((0 : Int), ((0 : Int), ((0 : Int), false)))))), (1 : Int))) else (bif (!a.1.2.2.2.2.2.2) then (some (((bs []), ((bs []), ((bs []), ((0 : Int), ((0 : Int), ((0 : Int), false)))))), (14 : Int))) else (bif (decide ((a.2.1 < (1 : Int)))) then (some (((bs []), ((bs []), ((bs []), ((0 : Int), ((0 : Int), ((0 : Int), false)))))), (1 : Int))) else (bif (decide ((a.2.1 > (IntKind.wrap .i64 (a.1.2.2.2.1 - a.1.2.2.2.2.1))))) then (some (((bs []), ((bs []), ((bs []), ((0 : Int), ((0 : Int), ((0 : Int), false)))))), (13 : Int))) else (bif (!a.2.2) then (some ((a.1.1, (a.1.2.1, (a.1.2.2.1, (a.1.2.2.2.1, ((IntKind.wrap .i64 (a.1.2.2.2.2.1 + a.2.1)), (a.1.2.2.2.2.2.1, (decide (((IntKind.wrap .i64 (a.1.2.2.2.2.1 + a.2.1)) < a.1.2.2.2.1))))))))), (0 : Int))) else (some ((a.1.1, (a.1.2.1, (a.1.2.2.1, (a.1.2.2.2.1, ((IntKind.wrap .i64 (a.1.2.2.2.2.1 + a.2.1)), (a.1.2.2.2.2.2.1, false)))))), (0 : Int)))))))))
theorem hold_Take.ok : ∀ a : Vals hold_Take.As.tys, fnK P hold_Take.H (lp []) 10 hold_Take.As hold_Take.m a some = hold_Take.f a := fun a => by kernel_rfl
noncomputable abbrev hold_Take.row : Row := fnRow 10 hold_Take.As hold_Take.m hold_Take.f
theorem hold_Take.row_ok : RowOK P G0 hold_Take.row := row_told hold_Take.hok (lp_of (l := []) trivial) (fun _ => rfl) hold_Take.ok
end Go.Proofs.Ytloambokbipnjaa
end
section
/- The Go function money.Add, as a Lean function, and that it is this one. Written by a program of this session. -/
set_option linter.unusedVariables false
set_option maxRecDepth 100000
namespace Go.Proofs.Ytloambokbipnjaa
open Go Go.Fw
abbrev money_Add.As : Shs := (.cons (.x (.i .i64)) (.cons (.x (.i .i64)) .nil))
abbrev money_Add.m : Back := [(false, (.i .i64)), (false, (.i .i64))]
noncomputable abbrev money_Add.H : HK := hk P G0 E0 [money_Sum.row] noLoops 4
theorem money_Add.hok : HKOK P money_Add.H := hk_ok e0_ok (rows_ok (ws := [money_Sum.row]) ⟨money_Sum.row_ok, trivial⟩) (fun g n => noLoops_ok g n) 4
noncomputable def money_Add.f (a : (Int × Int)) : Option (Int × Int) := (((money_Sum.f (a.1 :: (a.2 :: [])))).bind fun (x2 : (Int × Int)) => (some x2))
theorem money_Add.ok : ∀ a : Vals money_Add.As.tys, fnK P money_Add.H (lp []) 35 money_Add.As money_Add.m a some = money_Add.f a := fun a => by kernel_rfl
noncomputable abbrev money_Add.row : Row := fnRow 35 money_Add.As money_Add.m money_Add.f
theorem money_Add.row_ok : RowOK P G0 money_Add.row := row_told money_Add.hok (lp_of (l := []) trivial) (fun _ => rfl) money_Add.ok
end Go.Proofs.Ytloambokbipnjaa
end
section
/- The Go function hold.More, as a Lean function, and that it is this one. Written by a program of this session. -/
set_option linter.unusedVariables false
set_option maxRecDepth 100000
namespace Go.Proofs.Ytloambokbipnjaa
open Go Go.Fw
abbrev hold_More.As : Shs := (.cons (.x T_api_Hold) (.cons (.x (.i .i64)) (.cons (.x (.i .i64)) .nil)))
abbrev hold_More.m : Back := [(false, T_api_Hold), (false, (.i .i64))]
noncomputable abbrev hold_More.H : HK := hk P G0 E0 [hold_May.row, hold_until.row, money_Add.row] noLoops 4
theorem hold_More.hok : HKOK P hold_More.H := hk_ok e0_ok (rows_ok (ws := [hold_May.row, hold_until.row, money_Add.row]) ⟨hold_May.row_ok, ⟨hold_until.row_ok, ⟨money_Add.row_ok, trivial⟩⟩⟩) (fun g n => noLoops_ok g n) 4
noncomputable def hold_More.f (a : ((ByteArray × (ByteArray × (ByteArray × (Int × (Int × (Int × Bool)))))) × (Int × Int))) : Option ((ByteArray × (ByteArray × (ByteArray × (Int × (Int × (Int × Bool)))))) × Int) := (((hold_May.f a.1)).bind fun (x3 : Bool) => (bif (!x3) then (some (((bs []), ((bs []), ((bs []), ((0 : Int), ((0 : Int), ((0 : Int), false)))))), (1 : Int))) else (bif (!a.1.2.2.2.2.2.2) then (some (((bs []), ((bs []), ((bs []), ((0 : Int), ((0 : Int), ((0 : Int), false)))))), (14 : Int))) else (bif (decide ((a.2.1 < (1 : Int)))) then (some (((bs []), ((bs []), ((bs []), ((0 : Int), ((0 : Int), ((0 : Int), false)))))), (1 : Int))) else (((hold_until.f a.2.2)).bind fun (x4 : Bool) => (bif (!x4) then (some (((bs []), ((bs []), ((bs []), ((0 : Int), ((0 : Int), ((0 : Int), false)))))), (1 : Int))) else (((money_Add.f (a.1.2.2.2.1, a.2.1))).bind fun (x5 : (Int × Int)) => (bif (x5.2 != (0 : Int)) then (some (((bs []), ((bs []), ((bs []), ((0 : Int), ((0 : Int), ((0 : Int), false)))))), x5.2)) else (bif a.1.2.2.2.2.2.2 then (some ((a.1.1, (a.1.2.1, (a.1.2.2.1, (x5.1, (a.1.2.2.2.2.1, (a.2.2, (decide ((a.1.2.2.2.2.1 < x5.1))))))))), (0 : Int))) else (some ((a.1.1, (a.1.2.1, (a.1.2.2.1, (x5.1, (a.1.2.2.2.2.1, (a.2.2, false)))))), (0 : Int))))))))))))
theorem hold_More.ok : ∀ a : Vals hold_More.As.tys, fnK P hold_More.H (lp []) 11 hold_More.As hold_More.m a some = hold_More.f a := fun a => by kernel_rfl
noncomputable abbrev hold_More.row : Row := fnRow 11 hold_More.As hold_More.m hold_More.f
theorem hold_More.row_ok : RowOK P G0 hold_More.row := row_told hold_More.hok (lp_of (l := []) trivial) (fun _ => rfl) hold_More.ok
end Go.Proofs.Ytloambokbipnjaa
end
section
/- The Go function hold.Less, as a Lean function, and that it is this one. Written by a program of this session. -/
set_option linter.unusedVariables false
set_option maxRecDepth 100000
namespace Go.Proofs.Ytloambokbipnjaa
open Go Go.Fw
abbrev hold_Less.As : Shs := (.cons (.x T_api_Hold) (.cons (.x (.i .i64)) .nil))
abbrev hold_Less.m : Back := [(false, T_api_Hold), (false, (.i .i64))]
noncomputable abbrev hold_Less.H : HK := hk P G0 E0 [hold_May.row] noLoops 4
theorem hold_Less.hok : HKOK P hold_Less.H := hk_ok e0_ok (rows_ok (ws := [hold_May.row]) ⟨hold_May.row_ok, trivial⟩) (fun g n => noLoops_ok g n) 4
noncomputable def hold_Less.f (a : ((ByteArray × (ByteArray × (ByteArray × (Int × (Int × (Int × Bool)))))) × Int)) : Option ((ByteArray × (ByteArray × (ByteArray × (Int × (Int × (Int × Bool)))))) × Int) := (((hold_May.f a.1)).bind fun (x2 : Bool) => (bif (!x2) then (some (((bs []), ((bs []), ((bs []), ((0 : Int), ((0 : Int), ((0 : Int), false)))))), (1 : Int))) else (bif (!a.1.2.2.2.2.2.2) then (some (((bs []), ((bs []), ((bs []), ((0 : Int), ((0 : Int), ((0 : Int), false)))))), (14 : Int))) else (bif (decide ((a.2 < (1 : Int)))) then (some (((bs []), ((bs []), ((bs []), ((0 : Int), ((0 : Int), ((0 : Int), false)))))), (1 : Int))) else (bif (decide ((a.2 > (IntKind.wrap .i64 (a.1.2.2.2.1 - a.1.2.2.2.2.1))))) then (some (((bs []), ((bs []), ((bs []), ((0 : Int), ((0 : Int), ((0 : Int), false)))))), (13 : Int))) else (bif a.1.2.2.2.2.2.2 then (some ((a.1.1, (a.1.2.1, (a.1.2.2.1, ((IntKind.wrap .i64 (a.1.2.2.2.1 - a.2)), (a.1.2.2.2.2.1, (a.1.2.2.2.2.2.1, (decide ((a.1.2.2.2.2.1 < (IntKind.wrap .i64 (a.1.2.2.2.1 - a.2))))))))))), (0 : Int))) else (some ((a.1.1, (a.1.2.1, (a.1.2.2.1, ((IntKind.wrap .i64 (a.1.2.2.2.1 - a.2)), (a.1.2.2.2.2.1, (a.1.2.2.2.2.2.1, false)))))), (0 : Int)))))))))
theorem hold_Less.ok : ∀ a : Vals hold_Less.As.tys, fnK P hold_Less.H (lp []) 13 hold_Less.As hold_Less.m a some = hold_Less.f a := fun a => by kernel_rfl
noncomputable abbrev hold_Less.row : Row := fnRow 13 hold_Less.As hold_Less.m hold_Less.f
theorem hold_Less.row_ok : RowOK P G0 hold_Less.row := row_told hold_Less.hok (lp_of (l := []) trivial) (fun _ => rfl) hold_Less.ok
end Go.Proofs.Ytloambokbipnjaa
end
section
/- The Go function hold.Undo, as a Lean function, and that it is this one. Written by a program of this session. -/
set_option linter.unusedVariables false
set_option maxRecDepth 100000
namespace Go.Proofs.Ytloambokbipnjaa
open Go Go.Fw
abbrev hold_Undo.As : Shs := (.cons (.x T_api_Hold) .nil)
abbrev hold_Undo.m : Back := [(false, T_api_Hold), (false, (.i .i64))]
noncomputable abbrev hold_Undo.H : HK := hk P G0 E0 [hold_May.row] noLoops 4
theorem hold_Undo.hok : HKOK P hold_Undo.H := hk_ok e0_ok (rows_ok (ws := [hold_May.row]) ⟨hold_May.row_ok, trivial⟩) (fun g n => noLoops_ok g n) 4
noncomputable def hold_Undo.f (a : (ByteArray × (ByteArray × (ByteArray × (Int × (Int × (Int × Bool))))))) : Option ((ByteArray × (ByteArray × (ByteArray × (Int × (Int × (Int × Bool)))))) × Int) := (((hold_May.f a)).bind fun (x1 : Bool) => (bif (!x1) then (some (((bs []), ((bs []), ((bs []), ((0 : Int), ((0 : Int), ((0 : Int), false)))))), (1 : Int))) else (bif (!a.2.2.2.2.2.2) then (some (((bs []), ((bs []), ((bs []), ((0 : Int), ((0 : Int), ((0 : Int), false)))))), (14 : Int))) else (bif a.2.2.2.2.2.2 then (some ((a.1, (a.2.1, (a.2.2.1, (a.2.2.2.2.1, (a.2.2.2.2.1, (a.2.2.2.2.2.1, (decide ((a.2.2.2.2.1 < a.2.2.2.2.1))))))))), (0 : Int))) else (some ((a.1, (a.2.1, (a.2.2.1, (a.2.2.2.2.1, (a.2.2.2.2.1, (a.2.2.2.2.2.1, false)))))), (0 : Int)))))))
theorem hold_Undo.ok : ∀ a : Vals hold_Undo.As.tys, fnK P hold_Undo.H (lp []) 19 hold_Undo.As hold_Undo.m a some = hold_Undo.f a := fun a => by kernel_rfl
noncomputable abbrev hold_Undo.row : Row := fnRow 19 hold_Undo.As hold_Undo.m hold_Undo.f
theorem hold_Undo.row_ok : RowOK P G0 hold_Undo.row := row_told hold_Undo.hok (lp_of (l := []) trivial) (fun _ => rfl) hold_Undo.ok
end Go.Proofs.Ytloambokbipnjaa
end
section
/- The Go function hold.Lapse, as a Lean function, and that it is this one. Written by a program of this session. -/
set_option linter.unusedVariables false
set_option maxRecDepth 100000
namespace Go.Proofs.Ytloambokbipnjaa
open Go Go.Fw
abbrev hold_Lapse.As : Shs := (.cons (.x T_api_Hold) (.cons (.x (.i .i64)) .nil))
abbrev hold_Lapse.m : Back := [(false, T_api_Hold), (false, .b)]
noncomputable abbrev hold_Lapse.H : HK := hk P G0 E0 [hold_May.row] noLoops 4
theorem hold_Lapse.hok : HKOK P hold_Lapse.H := hk_ok e0_ok (rows_ok (ws := [hold_May.row]) ⟨hold_May.row_ok, trivial⟩) (fun g n => noLoops_ok g n) 4
noncomputable def hold_Lapse.f (a : ((ByteArray × (ByteArray × (ByteArray × (Int × (Int × (Int × Bool)))))) × Int)) : Option ((ByteArray × (ByteArray × (ByteArray × (Int × (Int × (Int × Bool)))))) × Bool) := (((hold_May.f a.1)).bind fun (x2 : Bool) => (bif (!x2) then (some (((bs []), ((bs []), ((bs []), ((0 : Int), ((0 : Int), ((0 : Int), false)))))), false)) else (bif a.1.2.2.2.2.2.2 then (bif a.1.2.2.2.2.2.2 then (some ((a.1.1, (a.1.2.1, (a.1.2.2.1, (a.1.2.2.2.1, (a.1.2.2.2.2.1, (a.1.2.2.2.2.2.1, (!(decide ((a.2 > a.1.2.2.2.2.2.1)))))))))), (decide ((a.2 > a.1.2.2.2.2.2.1))))) else (some ((a.1.1, (a.1.2.1, (a.1.2.2.1, (a.1.2.2.2.1, (a.1.2.2.2.2.1, (a.1.2.2.2.2.2.1, false)))))), (decide ((a.2 > a.1.2.2.2.2.2.1)))))) else (bif a.1.2.2.2.2.2.2 then (some ((a.1.1, (a.1.2.1, (a.1.2.2.1, (a.1.2.2.2.1, (a.1.2.2.2.2.1, (a.1.2.2.2.2.2.1, true)))))), false)) else (some ((a.1.1, (a.1.2.1, (a.1.2.2.1, (a.1.2.2.2.1, (a.1.2.2.2.2.1, (a.1.2.2.2.2.2.1, false)))))), false))))))
theorem hold_Lapse.ok : ∀ a : Vals hold_Lapse.As.tys, fnK P hold_Lapse.H (lp []) 20 hold_Lapse.As hold_Lapse.m a some = hold_Lapse.f a := fun a => by kernel_rfl
noncomputable abbrev hold_Lapse.row : Row := fnRow 20 hold_Lapse.As hold_Lapse.m hold_Lapse.f
theorem hold_Lapse.row_ok : RowOK P G0 hold_Lapse.row := row_told hold_Lapse.hok (lp_of (l := []) trivial) (fun _ => rfl) hold_Lapse.ok
end Go.Proofs.Ytloambokbipnjaa
end
section
/- The Go function bursarlaw14.HoldKeeps, as a Lean function, and that it is this one. Written by a program of this session. -/
set_option linter.unusedVariables false
set_option maxRecDepth 100000
namespace Go.Proofs.Ytloambokbipnjaa
open Go Go.Fw
abbrev bursarlaw14_HoldKeeps.As : Shs := (.cons (.x T_api_Hold) (.cons (.x (.l T_bursarlaw14_Act)) .nil))
abbrev bursarlaw14_HoldKeeps.m : Back := [(false, .b)]
noncomputable abbrev bursarlaw14_HoldKeeps.H : HK := hk P G0 E0 [bursarlaw14_Few.row, hold_Take.row, hold_More.row, bursarlaw14_awake.row, hold_Less.row, hold_May.row, hold_Left.row, hold_Undo.row, hold_Lapse.row] noLoops 4
theorem bursarlaw14_HoldKeeps.hok : HKOK P bursarlaw14_HoldKeeps.H := hk_ok e0_ok (rows_ok (ws := [bursarlaw14_Few.row, hold_Take.row, hold_More.row, bursarlaw14_awake.row, hold_Less.row, hold_May.row, hold_Left.row, hold_Undo.row, hold_Lapse.row]) ⟨bursarlaw14_Few.row_ok, ⟨hold_Take.row_ok, ⟨hold_More.row_ok, ⟨bursarlaw14_awake.row_ok, ⟨hold_Less.row_ok, ⟨hold_May.row_ok, ⟨hold_Left.row_ok, ⟨hold_Undo.row_ok, ⟨hold_Lapse.row_ok, trivial⟩⟩⟩⟩⟩⟩⟩⟩⟩) (fun g n => noLoops_ok g n) 4
abbrev bursarlaw14_HoldKeeps.sh8 : SSh := ⟨[(1, (.x (.l T_bursarlaw14_Act))), (2, (.pt 0 0)), (5, (.x (.i .i64))), (6, (.x (.i .i64)))], [.box (.cons (.x .s) (.cons (.x .s) (.cons (.x .s) (.cons (.x (.i .i64)) (.cons (.x (.i .i64)) (.cons (.x (.i .i64)) (.cons (.x .b) .nil)))))))]⟩
abbrev bursarlaw14_HoldKeeps.sh8_0 : SSh := ⟨[(1, (.x (.l T_bursarlaw14_Act))), (2, (.pt 0 0)), (5, (.x (.i .i64))), (6, (.x (.i .i64)))], [.box (.cons (.x .s) (.cons (.x .s) (.cons (.x .s) (.cons (.x (.i .i64)) (.cons (.x (.i .i64)) (.cons (.x (.i .i64)) (.cons (.x .b) .nil)))))))]⟩
abbrev bursarlaw14_HoldKeeps.os8_0 : PEnds := [(.n, ⟨[(1, (.x (.l T_bursarlaw14_Act))), (2, (.pt 0 0)), (5, (.x (.i .i64))), (6, (.x (.i .i64))), (27, (.x .b))], [.box (.cons (.x .s) (.cons (.x .s) (.cons (.x .s) (.cons (.x (.i .i64)) (.cons (.x (.i .i64)) (.cons (.x (.i .i64)) (.cons (.x .b) .nil)))))))]⟩)]
noncomputable def bursarlaw14_HoldKeeps.l8_0 (s : ((List (Int × (Int × Int))) × (Int × (Int × (ByteArray × (ByteArray × (ByteArray × (Int × (Int × (Int × Bool)))))))))) : Option (((List (Int × (Int × Int))) × (Int × (Int × (Bool × (ByteArray × (ByteArray × (ByteArray × (Int × (Int × (Int × Bool))))))))))) := (bif (decide ((s.2.2.1 < ((List.length s.1) : Int)))) then (some (s.1, (s.2.1, (s.2.2.1, ((decide ((s.2.2.1 < (30 : Int)))), s.2.2.2))))) else (some (s.1, (s.2.1, (s.2.2.1, (false, s.2.2.2))))))
theorem bursarlaw14_HoldKeeps.l8_0_ok : ∀ s : Vals bursarlaw14_HoldKeeps.sh8_0.tys, nodeK P bursarlaw14_HoldKeeps.H (lp []) (placeAt (bodyAt (codeOf P 5) 8) 0) 0 bursarlaw14_HoldKeeps.sh8_0 bursarlaw14_HoldKeeps.os8_0 s some = bursarlaw14_HoldKeeps.l8_0 s := fun s => by kernel_rfl
abbrev bursarlaw14_HoldKeeps.sh8_8 : SSh := ⟨[(1, (.x (.l T_bursarlaw14_Act))), (2, (.pt 0 0)), (5, (.x (.i .i64))), (6, (.x (.i .i64))), (7, (.pt 1 0)), (8, (.pt 2 0)), (9, (.x (.i .i64))), (36, (.x (.i .i64))), (64, (.x .b))], [.box (.cons (.x .s) (.cons (.x .s) (.cons (.x .s) (.cons (.x (.i .i64)) (.cons (.x (.i .i64)) (.cons (.x (.i .i64)) (.cons (.x .b) .nil))))))), .box (.cons (.x (.i .i64)) (.cons (.x (.i .i64)) (.cons (.x (.i .i64)) .nil))), .box (.cons (.x .s) (.cons (.x .s) (.cons (.x .s) (.cons (.x (.i .i64)) (.cons (.x (.i .i64)) (.cons (.x (.i .i64)) (.cons (.x .b) .nil)))))))]⟩
abbrev bursarlaw14_HoldKeeps.os8_8 : PEnds := [(.ret, ⟨[(4, (.x .b))], []⟩), (.n, ⟨[(1, (.x (.l T_bursarlaw14_Act))), (2, (.pt 0 0)), (5, (.x (.i .i64))), (6, (.x (.i .i64))), (7, (.pt 1 0)), (8, (.pt 2 0)), (9, (.x (.i .i64)))], [.box (.cons (.x .s) (.cons (.x .s) (.cons (.x .s) (.cons (.x (.i .i64)) (.cons (.x (.i .i64)) (.cons (.x (.i .i64)) (.cons (.x .b) .nil))))))), .box (.cons (.x (.i .i64)) (.cons (.x (.i .i64)) (.cons (.x (.i .i64)) .nil))), .box (.cons (.x .s) (.cons (.x .s) (.cons (.x .s) (.cons (.x (.i .i64)) (.cons (.x (.i .i64)) (.cons (.x (.i .i64)) (.cons (.x .b) .nil)))))))]⟩)]
noncomputable def bursarlaw14_HoldKeeps.l8_8 (s : ((List (Int × (Int × Int))) × (Int × (Int × (Int × (Int × (Bool × (ByteArray × (ByteArray × (ByteArray × (Int × (Int × (Int × (Bool × (Int × (Int × (Int × (ByteArray × (ByteArray × (ByteArray × (Int × (Int × (Int × Bool))))))))))))))))))))))) : Option (Bool ⊕ ((List (Int × (Int × Int))) × (Int × (Int × (Int × (ByteArray × (ByteArray × (ByteArray × (Int × (Int × (Int × (Bool × (Int × (Int × (Int × (ByteArray × (ByteArray × (ByteArray × (Int × (Int × (Int × Bool))))))))))))))))))))) := (bif s.2.2.2.2.2.1 then (((hold_More.f ((s.2.2.2.2.2.2.1, (s.2.2.2.2.2.2.2.1, (s.2.2.2.2.2.2.2.2.1, (s.2.2.2.2.2.2.2.2.2.1, (s.2.2.2.2.2.2.2.2.2.2.1, (s.2.2.2.2.2.2.2.2.2.2.2.1, s.2.2.2.2.2.2.2.2.2.2.2.2.1)))))), (s.2.2.2.2.2.2.2.2.2.2.2.2.2.2.2.1, s.2.2.2.2.2.2.2.2.2.2.2.2.2.2.1)))).bind fun (x23 : ((ByteArray × (ByteArray × (ByteArray × (Int × (Int × (Int × Bool)))))) × Int)) => (bif (x23.2 == (0 : Int)) then (((hold_Left.f x23.1)).bind fun (x24 : Int) => (((hold_Left.f (s.2.2.2.2.2.2.1, (s.2.2.2.2.2.2.2.1, (s.2.2.2.2.2.2.2.2.1, (s.2.2.2.2.2.2.2.2.2.1, (s.2.2.2.2.2.2.2.2.2.2.1, (s.2.2.2.2.2.2.2.2.2.2.2.1, s.2.2.2.2.2.2.2.2.2.2.2.2.1)))))))).bind fun (x25 : Int) => (bif (x24 != (IntKind.wrap .i64 (x25 + s.2.2.2.2.2.2.2.2.2.2.2.2.2.2.2.1))) then (some (.inl false)) else (bif (x23.1.2.2.2.2.2.1 != s.2.2.2.2.2.2.2.2.2.2.2.2.2.2.1) then (some (.inl false)) else (some (.inr (s.1, (s.2.1, (s.2.2.1, (x23.2, (s.2.2.2.2.2.2.1, (s.2.2.2.2.2.2.2.1, (s.2.2.2.2.2.2.2.2.1, (s.2.2.2.2.2.2.2.2.2.1, (s.2.2.2.2.2.2.2.2.2.2.1, (s.2.2.2.2.2.2.2.2.2.2.2.1, (s.2.2.2.2.2.2.2.2.2.2.2.2.1, (s.2.2.2.2.2.2.2.2.2.2.2.2.2.1, (s.2.2.2.2.2.2.2.2.2.2.2.2.2.2.1, (s.2.2.2.2.2.2.2.2.2.2.2.2.2.2.2.1, x23.1)))))))))))))))))))) else (some (.inr (s.1, (s.2.1, (s.2.2.1, (x23.2, (s.2.2.2.2.2.2.1, (s.2.2.2.2.2.2.2.1, (s.2.2.2.2.2.2.2.2.1, (s.2.2.2.2.2.2.2.2.2.1, (s.2.2.2.2.2.2.2.2.2.2.1, (s.2.2.2.2.2.2.2.2.2.2.2.1, (s.2.2.2.2.2.2.2.2.2.2.2.2.1, (s.2.2.2.2.2.2.2.2.2.2.2.2.2.1, (s.2.2.2.2.2.2.2.2.2.2.2.2.2.2.1, (s.2.2.2.2.2.2.2.2.2.2.2.2.2.2.2.1, x23.1)))))))))))))))))) else (bif (s.2.2.2.2.1 == (1 : Int)) then (((hold_Take.f ((s.2.2.2.2.2.2.1, (s.2.2.2.2.2.2.2.1, (s.2.2.2.2.2.2.2.2.1, (s.2.2.2.2.2.2.2.2.2.1, (s.2.2.2.2.2.2.2.2.2.2.1, (s.2.2.2.2.2.2.2.2.2.2.2.1, s.2.2.2.2.2.2.2.2.2.2.2.2.1)))))), (s.2.2.2.2.2.2.2.2.2.2.2.2.2.2.2.1, ((Int.tmod s.2.2.2.2.2.2.2.2.2.2.2.2.2.2.1 (2 : Int)) != (0 : Int)))))).bind fun (x23 : ((ByteArray × (ByteArray × (ByteArray × (Int × (Int × (Int × Bool)))))) × Int)) => (bif (x23.2 == (0 : Int)) then (bif (x23.2 == (0 : Int)) then (bif ((Int.tmod s.2.2.2.2.2.2.2.2.2.2.2.2.2.2.1 (2 : Int)) == (0 : Int)) then (((hold_Left.f x23.1)).bind fun (x24 : Int) => (((hold_Left.f (s.2.2.2.2.2.2.1, (s.2.2.2.2.2.2.2.1, (s.2.2.2.2.2.2.2.2.1, (s.2.2.2.2.2.2.2.2.2.1, (s.2.2.2.2.2.2.2.2.2.2.1, (s.2.2.2.2.2.2.2.2.2.2.2.1, s.2.2.2.2.2.2.2.2.2.2.2.2.1)))))))).bind fun (x25 : Int) => (bif (x24 != (IntKind.wrap .i64 (x25 - s.2.2.2.2.2.2.2.2.2.2.2.2.2.2.2.1))) then (some (.inl false)) else (some (.inr (s.1, ((IntKind.wrap .i64 (s.2.1 + s.2.2.2.2.2.2.2.2.2.2.2.2.2.2.2.1)), (s.2.2.1, (x23.2, (s.2.2.2.2.2.2.1, (s.2.2.2.2.2.2.2.1, (s.2.2.2.2.2.2.2.2.1, (s.2.2.2.2.2.2.2.2.2.1, (s.2.2.2.2.2.2.2.2.2.2.1, (s.2.2.2.2.2.2.2.2.2.2.2.1, (s.2.2.2.2.2.2.2.2.2.2.2.2.1, (s.2.2.2.2.2.2.2.2.2.2.2.2.2.1, (s.2.2.2.2.2.2.2.2.2.2.2.2.2.2.1, (s.2.2.2.2.2.2.2.2.2.2.2.2.2.2.2.1, x23.1))))))))))))))))))) else (some (.inr (s.1, ((IntKind.wrap .i64 (s.2.1 + s.2.2.2.2.2.2.2.2.2.2.2.2.2.2.2.1)), (s.2.2.1, (x23.2, (s.2.2.2.2.2.2.1, (s.2.2.2.2.2.2.2.1, (s.2.2.2.2.2.2.2.2.1, (s.2.2.2.2.2.2.2.2.2.1, (s.2.2.2.2.2.2.2.2.2.2.1, (s.2.2.2.2.2.2.2.2.2.2.2.1, (s.2.2.2.2.2.2.2.2.2.2.2.2.1, (s.2.2.2.2.2.2.2.2.2.2.2.2.2.1, (s.2.2.2.2.2.2.2.2.2.2.2.2.2.2.1, (s.2.2.2.2.2.2.2.2.2.2.2.2.2.2.2.1, x23.1))))))))))))))))) else (some (.inr (s.1, ((IntKind.wrap .i64 (s.2.1 + s.2.2.2.2.2.2.2.2.2.2.2.2.2.2.2.1)), (s.2.2.1, (x23.2, (s.2.2.2.2.2.2.1, (s.2.2.2.2.2.2.2.1, (s.2.2.2.2.2.2.2.2.1, (s.2.2.2.2.2.2.2.2.2.1, (s.2.2.2.2.2.2.2.2.2.2.1, (s.2.2.2.2.2.2.2.2.2.2.2.1, (s.2.2.2.2.2.2.2.2.2.2.2.2.1, (s.2.2.2.2.2.2.2.2.2.2.2.2.2.1, (s.2.2.2.2.2.2.2.2.2.2.2.2.2.2.1, (s.2.2.2.2.2.2.2.2.2.2.2.2.2.2.2.1, x23.1))))))))))))))))) else (bif (x23.2 == (0 : Int)) then (bif ((Int.tmod s.2.2.2.2.2.2.2.2.2.2.2.2.2.2.1 (2 : Int)) == (0 : Int)) then (((hold_Left.f x23.1)).bind fun (x24 : Int) => (((hold_Left.f (s.2.2.2.2.2.2.1, (s.2.2.2.2.2.2.2.1, (s.2.2.2.2.2.2.2.2.1, (s.2.2.2.2.2.2.2.2.2.1, (s.2.2.2.2.2.2.2.2.2.2.1, (s.2.2.2.2.2.2.2.2.2.2.2.1, s.2.2.2.2.2.2.2.2.2.2.2.2.1)))))))).bind fun (x25 : Int) => (bif (x24 != (IntKind.wrap .i64 (x25 - s.2.2.2.2.2.2.2.2.2.2.2.2.2.2.2.1))) then (some (.inl false)) else (some (.inr (s.1, (s.2.1, (s.2.2.1, (x23.2, (s.2.2.2.2.2.2.1, (s.2.2.2.2.2.2.2.1, (s.2.2.2.2.2.2.2.2.1, (s.2.2.2.2.2.2.2.2.2.1, (s.2.2.2.2.2.2.2.2.2.2.1, (s.2.2.2.2.2.2.2.2.2.2.2.1, (s.2.2.2.2.2.2.2.2.2.2.2.2.1, (s.2.2.2.2.2.2.2.2.2.2.2.2.2.1, (s.2.2.2.2.2.2.2.2.2.2.2.2.2.2.1, (s.2.2.2.2.2.2.2.2.2.2.2.2.2.2.2.1, x23.1))))))))))))))))))) else (some (.inr (s.1, (s.2.1, (s.2.2.1, (x23.2, (s.2.2.2.2.2.2.1, (s.2.2.2.2.2.2.2.1, (s.2.2.2.2.2.2.2.2.1, (s.2.2.2.2.2.2.2.2.2.1, (s.2.2.2.2.2.2.2.2.2.2.1, (s.2.2.2.2.2.2.2.2.2.2.2.1, (s.2.2.2.2.2.2.2.2.2.2.2.2.1, (s.2.2.2.2.2.2.2.2.2.2.2.2.2.1, (s.2.2.2.2.2.2.2.2.2.2.2.2.2.2.1, (s.2.2.2.2.2.2.2.2.2.2.2.2.2.2.2.1, x23.1))))))))))))))))) else (some (.inr (s.1, (s.2.1, (s.2.2.1, (x23.2, (s.2.2.2.2.2.2.1, (s.2.2.2.2.2.2.2.1, (s.2.2.2.2.2.2.2.2.1, (s.2.2.2.2.2.2.2.2.2.1, (s.2.2.2.2.2.2.2.2.2.2.1, (s.2.2.2.2.2.2.2.2.2.2.2.1, (s.2.2.2.2.2.2.2.2.2.2.2.2.1, (s.2.2.2.2.2.2.2.2.2.2.2.2.2.1, (s.2.2.2.2.2.2.2.2.2.2.2.2.2.2.1, (s.2.2.2.2.2.2.2.2.2.2.2.2.2.2.2.1, x23.1))))))))))))))))))) else (bif (s.2.2.2.2.1 == (2 : Int)) then (((hold_Less.f ((s.2.2.2.2.2.2.1, (s.2.2.2.2.2.2.2.1, (s.2.2.2.2.2.2.2.2.1, (s.2.2.2.2.2.2.2.2.2.1, (s.2.2.2.2.2.2.2.2.2.2.1, (s.2.2.2.2.2.2.2.2.2.2.2.1, s.2.2.2.2.2.2.2.2.2.2.2.2.1)))))), s.2.2.2.2.2.2.2.2.2.2.2.2.2.2.2.1))).bind fun (x23 : ((ByteArray × (ByteArray × (ByteArray × (Int × (Int × (Int × Bool)))))) × Int)) => (bif (x23.2 == (0 : Int)) then (((hold_Left.f x23.1)).bind fun (x24 : Int) => (((hold_Left.f (s.2.2.2.2.2.2.1, (s.2.2.2.2.2.2.2.1, (s.2.2.2.2.2.2.2.2.1, (s.2.2.2.2.2.2.2.2.2.1, (s.2.2.2.2.2.2.2.2.2.2.1, (s.2.2.2.2.2.2.2.2.2.2.2.1, s.2.2.2.2.2.2.2.2.2.2.2.2.1)))))))).bind fun (x25 : Int) => (bif (x24 != (IntKind.wrap .i64 (x25 - s.2.2.2.2.2.2.2.2.2.2.2.2.2.2.2.1))) then (some (.inl false)) else (some (.inr (s.1, (s.2.1, (s.2.2.1, (x23.2, (s.2.2.2.2.2.2.1, (s.2.2.2.2.2.2.2.1, (s.2.2.2.2.2.2.2.2.1, (s.2.2.2.2.2.2.2.2.2.1, (s.2.2.2.2.2.2.2.2.2.2.1, (s.2.2.2.2.2.2.2.2.2.2.2.1, (s.2.2.2.2.2.2.2.2.2.2.2.2.1, (s.2.2.2.2.2.2.2.2.2.2.2.2.2.1, (s.2.2.2.2.2.2.2.2.2.2.2.2.2.2.1, (s.2.2.2.2.2.2.2.2.2.2.2.2.2.2.2.1, x23.1))))))))))))))))))) else (some (.inr (s.1, (s.2.1, (s.2.2.1, (x23.2, (s.2.2.2.2.2.2.1, (s.2.2.2.2.2.2.2.1, (s.2.2.2.2.2.2.2.2.1, (s.2.2.2.2.2.2.2.2.2.1, (s.2.2.2.2.2.2.2.2.2.2.1, (s.2.2.2.2.2.2.2.2.2.2.2.1, (s.2.2.2.2.2.2.2.2.2.2.2.2.1, (s.2.2.2.2.2.2.2.2.2.2.2.2.2.1, (s.2.2.2.2.2.2.2.2.2.2.2.2.2.2.1, (s.2.2.2.2.2.2.2.2.2.2.2.2.2.2.2.1, x23.1)))))))))))))))))) else (bif (s.2.2.2.2.1 == (3 : Int)) then (((hold_Undo.f (s.2.2.2.2.2.2.1, (s.2.2.2.2.2.2.2.1, (s.2.2.2.2.2.2.2.2.1, (s.2.2.2.2.2.2.2.2.2.1, (s.2.2.2.2.2.2.2.2.2.2.1, (s.2.2.2.2.2.2.2.2.2.2.2.1, s.2.2.2.2.2.2.2.2.2.2.2.2.1)))))))).bind fun (x23 : ((ByteArray × (ByteArray × (ByteArray × (Int × (Int × (Int × Bool)))))) × Int)) => (bif (x23.2 == (0 : Int)) then (((hold_Left.f x23.1)).bind fun (x24 : Int) => (bif (x24 != (0 : Int)) then (some (.inl false)) else (some (.inr (s.1, (s.2.1, (s.2.2.1, (x23.2, (s.2.2.2.2.2.2.1, (s.2.2.2.2.2.2.2.1, (s.2.2.2.2.2.2.2.2.1, (s.2.2.2.2.2.2.2.2.2.1, (s.2.2.2.2.2.2.2.2.2.2.1, (s.2.2.2.2.2.2.2.2.2.2.2.1, (s.2.2.2.2.2.2.2.2.2.2.2.2.1, (s.2.2.2.2.2.2.2.2.2.2.2.2.2.1, (s.2.2.2.2.2.2.2.2.2.2.2.2.2.2.1, (s.2.2.2.2.2.2.2.2.2.2.2.2.2.2.2.1, x23.1)))))))))))))))))) else (some (.inr (s.1, (s.2.1, (s.2.2.1, (x23.2, (s.2.2.2.2.2.2.1, (s.2.2.2.2.2.2.2.1, (s.2.2.2.2.2.2.2.2.1, (s.2.2.2.2.2.2.2.2.2.1, (s.2.2.2.2.2.2.2.2.2.2.1, (s.2.2.2.2.2.2.2.2.2.2.2.1, (s.2.2.2.2.2.2.2.2.2.2.2.2.1, (s.2.2.2.2.2.2.2.2.2.2.2.2.2.1, (s.2.2.2.2.2.2.2.2.2.2.2.2.2.2.1, (s.2.2.2.2.2.2.2.2.2.2.2.2.2.2.2.1, x23.1)))))))))))))))))) else (((hold_Lapse.f ((s.2.2.2.2.2.2.1, (s.2.2.2.2.2.2.2.1, (s.2.2.2.2.2.2.2.2.1, (s.2.2.2.2.2.2.2.2.2.1, (s.2.2.2.2.2.2.2.2.2.2.1, (s.2.2.2.2.2.2.2.2.2.2.2.1, s.2.2.2.2.2.2.2.2.2.2.2.2.1)))))), s.2.2.2.2.2.2.2.2.2.2.2.2.2.2.1))).bind fun (x23 : ((ByteArray × (ByteArray × (ByteArray × (Int × (Int × (Int × Bool)))))) × Bool)) => (bif s.2.2.2.2.2.2.2.2.2.2.2.2.1 then (bif (!(x23.2 == (decide ((s.2.2.2.2.2.2.2.2.2.2.2.2.2.2.1 > s.2.2.2.2.2.2.2.2.2.2.2.1))))) then (some (.inl false)) else (bif x23.2 then (((hold_Left.f x23.1)).bind fun (x24 : Int) => (bif (x24 != (0 : Int)) then (some (.inl false)) else (some (.inr (s.1, (s.2.1, (s.2.2.1, (s.2.2.2.1, (s.2.2.2.2.2.2.1, (s.2.2.2.2.2.2.2.1, (s.2.2.2.2.2.2.2.2.1, (s.2.2.2.2.2.2.2.2.2.1, (s.2.2.2.2.2.2.2.2.2.2.1, (s.2.2.2.2.2.2.2.2.2.2.2.1, (s.2.2.2.2.2.2.2.2.2.2.2.2.1, (s.2.2.2.2.2.2.2.2.2.2.2.2.2.1, (s.2.2.2.2.2.2.2.2.2.2.2.2.2.2.1, (s.2.2.2.2.2.2.2.2.2.2.2.2.2.2.2.1, x23.1)))))))))))))))))) else (some (.inr (s.1, (s.2.1, (s.2.2.1, (s.2.2.2.1, (s.2.2.2.2.2.2.1, (s.2.2.2.2.2.2.2.1, (s.2.2.2.2.2.2.2.2.1, (s.2.2.2.2.2.2.2.2.2.1, (s.2.2.2.2.2.2.2.2.2.2.1, (s.2.2.2.2.2.2.2.2.2.2.2.1, (s.2.2.2.2.2.2.2.2.2.2.2.2.1, (s.2.2.2.2.2.2.2.2.2.2.2.2.2.1, (s.2.2.2.2.2.2.2.2.2.2.2.2.2.2.1, (s.2.2.2.2.2.2.2.2.2.2.2.2.2.2.2.1, x23.1)))))))))))))))))) else (bif (!(x23.2 == false)) then (some (.inl false)) else (bif x23.2 then (((hold_Left.f x23.1)).bind fun (x24 : Int) => (bif (x24 != (0 : Int)) then (some (.inl false)) else (some (.inr (s.1, (s.2.1, (s.2.2.1, (s.2.2.2.1, (s.2.2.2.2.2.2.1, (s.2.2.2.2.2.2.2.1, (s.2.2.2.2.2.2.2.2.1, (s.2.2.2.2.2.2.2.2.2.1, (s.2.2.2.2.2.2.2.2.2.2.1, (s.2.2.2.2.2.2.2.2.2.2.2.1, (s.2.2.2.2.2.2.2.2.2.2.2.2.1, (s.2.2.2.2.2.2.2.2.2.2.2.2.2.1, (s.2.2.2.2.2.2.2.2.2.2.2.2.2.2.1, (s.2.2.2.2.2.2.2.2.2.2.2.2.2.2.2.1, x23.1)))))))))))))))))) else (some (.inr (s.1, (s.2.1, (s.2.2.1, (s.2.2.2.1, (s.2.2.2.2.2.2.1, (s.2.2.2.2.2.2.2.1, (s.2.2.2.2.2.2.2.2.1, (s.2.2.2.2.2.2.2.2.2.1, (s.2.2.2.2.2.2.2.2.2.2.1, (s.2.2.2.2.2.2.2.2.2.2.2.1, (s.2.2.2.2.2.2.2.2.2.2.2.2.1, (s.2.2.2.2.2.2.2.2.2.2.2.2.2.1, (s.2.2.2.2.2.2.2.2.2.2.2.2.2.2.1, (s.2.2.2.2.2.2.2.2.2.2.2.2.2.2.2.1, x23.1))))))))))))))))))))))))
theorem bursarlaw14_HoldKeeps.l8_8_ok : ∀ s : Vals bursarlaw14_HoldKeeps.sh8_8.tys, nodeK P bursarlaw14_HoldKeeps.H (lp []) (placeAt (bodyAt (codeOf P 5) 8) 8) 0 bursarlaw14_HoldKeeps.sh8_8 bursarlaw14_HoldKeeps.os8_8 s some = bursarlaw14_HoldKeeps.l8_8 s := fun s => by kernel_rfl
abbrev bursarlaw14_HoldKeeps.sh8_41 : SSh := ⟨[(1, (.x (.l T_bursarlaw14_Act))), (2, (.pt 0 0)), (5, (.x (.i .i64))), (6, (.x (.i .i64))), (7, (.pt 1 0)), (8, (.pt 2 0)), (9, (.x (.i .i64)))], [.box (.cons (.x .s) (.cons (.x .s) (.cons (.x .s) (.cons (.x (.i .i64)) (.cons (.x (.i .i64)) (.cons (.x (.i .i64)) (.cons (.x .b) .nil))))))), .box (.cons (.x (.i .i64)) (.cons (.x (.i .i64)) (.cons (.x (.i .i64)) .nil))), .box (.cons (.x .s) (.cons (.x .s) (.cons (.x .s) (.cons (.x (.i .i64)) (.cons (.x (.i .i64)) (.cons (.x (.i .i64)) (.cons (.x .b) .nil)))))))]⟩
abbrev bursarlaw14_HoldKeeps.os8_41 : PEnds := [(.n, ⟨[(1, (.x (.l T_bursarlaw14_Act))), (2, (.pt 0 0)), (5, (.x (.i .i64))), (6, (.x (.i .i64))), (189, (.x .b))], [.box (.cons (.x .s) (.cons (.x .s) (.cons (.x .s) (.cons (.x (.i .i64)) (.cons (.x (.i .i64)) (.cons (.x (.i .i64)) (.cons (.x .b) .nil)))))))]⟩)]
noncomputable def bursarlaw14_HoldKeeps.l8_41 (s : ((List (Int × (Int × Int))) × (Int × (Int × (Int × (ByteArray × (ByteArray × (ByteArray × (Int × (Int × (Int × (Bool × (Int × (Int × (Int × (ByteArray × (ByteArray × (ByteArray × (Int × (Int × (Int × Bool))))))))))))))))))))) : Option (((List (Int × (Int × Int))) × (Int × (Int × (Bool × (ByteArray × (ByteArray × (ByteArray × (Int × (Int × (Int × Bool))))))))))) := (bif (!(((ByteArray.toList s.2.2.2.2.2.2.2.2.2.2.2.2.2.2.1) == (ByteArray.toList (bs []))) && (((ByteArray.toList s.2.2.2.2.2.2.2.2.2.2.2.2.2.2.2.1) == (ByteArray.toList (bs []))) && (((ByteArray.toList s.2.2.2.2.2.2.2.2.2.2.2.2.2.2.2.2.1) == (ByteArray.toList (bs []))) && ((s.2.2.2.2.2.2.2.2.2.2.2.2.2.2.2.2.2.1 == (0 : Int)) && ((s.2.2.2.2.2.2.2.2.2.2.2.2.2.2.2.2.2.2.1 == (0 : Int)) && ((s.2.2.2.2.2.2.2.2.2.2.2.2.2.2.2.2.2.2.2.1 == (0 : Int)) && ((s.2.2.2.2.2.2.2.2.2.2.2.2.2.2.2.2.2.2.2.2 == false) && true)))))))) then (some (s.1, (s.2.1, (s.2.2.1, (true, (s.2.2.2.2.1, (s.2.2.2.2.2.1, (s.2.2.2.2.2.2.1, (s.2.2.2.2.2.2.2.1, (s.2.2.2.2.2.2.2.2.1, (s.2.2.2.2.2.2.2.2.2.1, s.2.2.2.2.2.2.2.2.2.2.1))))))))))) else (bif (!s.2.2.2.2.2.2.2.2.2.2.1) then (bif (decide ((s.2.2.2.2.2.2.2.2.2.2.2.1 ≥ (0 : Int)))) then (bif (decide ((s.2.2.2.2.2.2.2.2.2.2.2.1 < (4 : Int)))) then (some (s.1, (s.2.1, (s.2.2.1, ((s.2.2.2.1 != (14 : Int)), (s.2.2.2.2.1, (s.2.2.2.2.2.1, (s.2.2.2.2.2.2.1, (s.2.2.2.2.2.2.2.1, (s.2.2.2.2.2.2.2.2.1, (s.2.2.2.2.2.2.2.2.2.1, s.2.2.2.2.2.2.2.2.2.2.1))))))))))) else (some (s.1, (s.2.1, (s.2.2.1, (false, (s.2.2.2.2.1, (s.2.2.2.2.2.1, (s.2.2.2.2.2.2.1, (s.2.2.2.2.2.2.2.1, (s.2.2.2.2.2.2.2.2.1, (s.2.2.2.2.2.2.2.2.2.1, s.2.2.2.2.2.2.2.2.2.2.1)))))))))))) else (some (s.1, (s.2.1, (s.2.2.1, (false, (s.2.2.2.2.1, (s.2.2.2.2.2.1, (s.2.2.2.2.2.2.1, (s.2.2.2.2.2.2.2.1, (s.2.2.2.2.2.2.2.2.1, (s.2.2.2.2.2.2.2.2.2.1, s.2.2.2.2.2.2.2.2.2.2.1)))))))))))) else (some (s.1, (s.2.1, (s.2.2.1, (false, (s.2.2.2.2.1, (s.2.2.2.2.2.1, (s.2.2.2.2.2.2.1, (s.2.2.2.2.2.2.2.1, (s.2.2.2.2.2.2.2.2.1, (s.2.2.2.2.2.2.2.2.2.1, s.2.2.2.2.2.2.2.2.2.2.1)))))))))))))
theorem bursarlaw14_HoldKeeps.l8_41_ok : ∀ s : Vals bursarlaw14_HoldKeeps.sh8_41.tys, nodeK P bursarlaw14_HoldKeeps.H (lp []) (placeAt (bodyAt (codeOf P 5) 8) 41) 0 bursarlaw14_HoldKeeps.sh8_41 bursarlaw14_HoldKeeps.os8_41 s some = bursarlaw14_HoldKeeps.l8_41 s := fun s => by kernel_rfl
abbrev bursarlaw14_HoldKeeps.sh8_44 : SSh := ⟨[(1, (.x (.l T_bursarlaw14_Act))), (2, (.pt 0 0)), (5, (.x (.i .i64))), (6, (.x (.i .i64))), (8, (.pt 1 0))], [.box (.cons (.x .s) (.cons (.x .s) (.cons (.x .s) (.cons (.x (.i .i64)) (.cons (.x (.i .i64)) (.cons (.x (.i .i64)) (.cons (.x .b) .nil))))))), .box (.cons (.x .s) (.cons (.x .s) (.cons (.x .s) (.cons (.x (.i .i64)) (.cons (.x (.i .i64)) (.cons (.x (.i .i64)) (.cons (.x .b) .nil)))))))]⟩
abbrev bursarlaw14_HoldKeeps.os8_44 : PEnds := [(.n, ⟨[(1, (.x (.l T_bursarlaw14_Act))), (2, (.pt 0 0)), (5, (.x (.i .i64))), (6, (.x (.i .i64))), (8, (.pt 1 0)), (241, (.x .b))], [.box (.cons (.x .s) (.cons (.x .s) (.cons (.x .s) (.cons (.x (.i .i64)) (.cons (.x (.i .i64)) (.cons (.x (.i .i64)) (.cons (.x .b) .nil))))))), .box (.cons (.x .s) (.cons (.x .s) (.cons (.x .s) (.cons (.x (.i .i64)) (.cons (.x (.i .i64)) (.cons (.x (.i .i64)) (.cons (.x .b) .nil)))))))]⟩)]
noncomputable def bursarlaw14_HoldKeeps.l8_44 (s : ((List (Int × (Int × Int))) × (Int × (Int × (ByteArray × (ByteArray × (ByteArray × (Int × (Int × (Int × (Bool × (ByteArray × (ByteArray × (ByteArray × (Int × (Int × (Int × Bool))))))))))))))))) : Option (((List (Int × (Int × Int))) × (Int × (Int × (Bool × (ByteArray × (ByteArray × (ByteArray × (Int × (Int × (Int × (Bool × (ByteArray × (ByteArray × (ByteArray × (Int × (Int × (Int × Bool)))))))))))))))))) := (((hold_May.f s.2.2.2.2.2.2.2.2.2.2)).bind fun (x17 : Bool) => (bif (!x17) then (some (s.1, (s.2.1, (s.2.2.1, (true, s.2.2.2))))) else (bif (s.2.2.2.2.2.2.2.2.2.2.2.2.2.2.1 != s.2.1) then (some (s.1, (s.2.1, (s.2.2.1, (true, s.2.2.2))))) else (bif (decide ((s.2.2.2.2.2.2.2.2.2.2.2.2.2.2.1 > s.2.2.2.2.2.2.2.2.2.2.2.2.2.1))) then (some (s.1, (s.2.1, (s.2.2.1, (true, s.2.2.2))))) else (((hold_Left.f s.2.2.2.2.2.2.2.2.2.2)).bind fun (x18 : Int) => (bif (decide ((x18 < (0 : Int)))) then (some (s.1, (s.2.1, (s.2.2.1, (true, s.2.2.2))))) else (bif (!((ByteArray.toList s.2.2.2.2.2.2.2.2.2.2.1) == (ByteArray.toList s.2.2.2.1))) then (some (s.1, (s.2.1, (s.2.2.1, (true, s.2.2.2))))) else (bif (!((ByteArray.toList s.2.2.2.2.2.2.2.2.2.2.2.1) == (ByteArray.toList s.2.2.2.2.1))) then (some (s.1, (s.2.1, (s.2.2.1, (true, s.2.2.2))))) else (bif (!((ByteArray.toList s.2.2.2.2.2.2.2.2.2.2.2.2.1) == (ByteArray.toList s.2.2.2.2.2.1))) then (some (s.1, (s.2.1, (s.2.2.1, (true, s.2.2.2))))) else (bif (!s.2.2.2.2.2.2.2.2.2.1) then (some (s.1, (s.2.1, (s.2.2.1, ((!(((ByteArray.toList s.2.2.2.2.2.2.2.2.2.2.1) == (ByteArray.toList s.2.2.2.1)) && (((ByteArray.toList s.2.2.2.2.2.2.2.2.2.2.2.1) == (ByteArray.toList s.2.2.2.2.1)) && (((ByteArray.toList s.2.2.2.2.2.2.2.2.2.2.2.2.1) == (ByteArray.toList s.2.2.2.2.2.1)) && ((s.2.2.2.2.2.2.2.2.2.2.2.2.2.1 == s.2.2.2.2.2.2.1) && ((s.2.2.2.2.2.2.2.2.2.2.2.2.2.2.1 == s.2.2.2.2.2.2.2.1) && ((s.2.2.2.2.2.2.2.2.2.2.2.2.2.2.2.1 == s.2.2.2.2.2.2.2.2.1) && ((s.2.2.2.2.2.2.2.2.2.2.2.2.2.2.2.2 == s.2.2.2.2.2.2.2.2.2.1) && true)))))))), s.2.2.2))))) else (some (s.1, (s.2.1, (s.2.2.1, (false, s.2.2.2)))))))))))))))
theorem bursarlaw14_HoldKeeps.l8_44_ok : ∀ s : Vals bursarlaw14_HoldKeeps.sh8_44.tys, nodeK P bursarlaw14_HoldKeeps.H (lp []) (placeAt (bodyAt (codeOf P 5) 8) 44) 0 bursarlaw14_HoldKeeps.sh8_44 bursarlaw14_HoldKeeps.os8_44 s some = bursarlaw14_HoldKeeps.l8_44 s := fun s => by kernel_rfl
abbrev bursarlaw14_HoldKeeps.os8 : PEnds := [(.ret, ⟨[(4, (.x .b))], []⟩), ((.exit 0), ⟨[], []⟩)]
noncomputable def bursarlaw14_HoldKeeps.t8 (s : ((List (Int × (Int × Int))) × (Int × (Int × (ByteArray × (ByteArray × (ByteArray × (Int × (Int × (Int × Bool)))))))))) : Option (((List (Int × (Int × Int))) × (Int × (Int × (ByteArray × (ByteArray × (ByteArray × (Int × (Int × (Int × Bool))))))))) ⊕ (Bool ⊕ Unit)) := (((bursarlaw14_HoldKeeps.l8_0 s)).bind fun (x10 : ((List (Int × (Int × Int))) × (Int × (Int × (Bool × (ByteArray × (ByteArray × (ByteArray × (Int × (Int × (Int × Bool))))))))))) => (bif x10.2.2.2.1 then (bif ((decide (((0 : Int) ≤ x10.2.2.1))) && (decide ((x10.2.2.1 < ((List.length x10.1) : Int))))) then (((bursarlaw14_HoldKeeps.l8_8 (x10.1, (x10.2.1, (x10.2.2.1, ((0 : Int), ((List.getD x10.1 (Int.toNat x10.2.2.1) (Ty.dflt T_bursarlaw14_Act)).1, (((List.getD x10.1 (Int.toNat x10.2.2.1) (Ty.dflt T_bursarlaw14_Act)).1 == (0 : Int)), (x10.2.2.2.2.1, (x10.2.2.2.2.2.1, (x10.2.2.2.2.2.2.1, (x10.2.2.2.2.2.2.2.1, (x10.2.2.2.2.2.2.2.2.1, (x10.2.2.2.2.2.2.2.2.2.1, (x10.2.2.2.2.2.2.2.2.2.2, ((List.getD x10.1 (Int.toNat x10.2.2.1) (Ty.dflt T_bursarlaw14_Act)).1, ((List.getD x10.1 (Int.toNat x10.2.2.1) (Ty.dflt T_bursarlaw14_Act)).2.1, ((List.getD x10.1 (Int.toNat x10.2.2.1) (Ty.dflt T_bursarlaw14_Act)).2.2, x10.2.2.2.2)))))))))))))))))).bind fun (x11 : (Bool ⊕ ((List (Int × (Int × Int))) × (Int × (Int × (Int × (ByteArray × (ByteArray × (ByteArray × (Int × (Int × (Int × (Bool × (Int × (Int × (Int × (ByteArray × (ByteArray × (ByteArray × (Int × (Int × (Int × Bool)))))))))))))))))))))) => (match x11 with | .inl x12 => (some (.inr (.inl x12))) | .inr x12 => (bif (x12.2.2.2.1 != (0 : Int)) then (((bursarlaw14_HoldKeeps.l8_41 x12)).bind fun (x13 : ((List (Int × (Int × Int))) × (Int × (Int × (Bool × (ByteArray × (ByteArray × (ByteArray × (Int × (Int × (Int × Bool))))))))))) => (bif x13.2.2.2.1 then (some (.inr (.inl false))) else (some (.inl (x13.1, (x13.2.1, ((IntKind.wrap .i64 (x13.2.2.1 + (1 : Int))), x13.2.2.2.2))))))) else (((bursarlaw14_HoldKeeps.l8_44 (x12.1, (x12.2.1, (x12.2.2.1, (x12.2.2.2.2.1, (x12.2.2.2.2.2.1, (x12.2.2.2.2.2.2.1, (x12.2.2.2.2.2.2.2.1, (x12.2.2.2.2.2.2.2.2.1, (x12.2.2.2.2.2.2.2.2.2.1, (x12.2.2.2.2.2.2.2.2.2.2.1, x12.2.2.2.2.2.2.2.2.2.2.2.2.2.2)))))))))))).bind fun (x13 : ((List (Int × (Int × Int))) × (Int × (Int × (Bool × (ByteArray × (ByteArray × (ByteArray × (Int × (Int × (Int × (Bool × (ByteArray × (ByteArray × (ByteArray × (Int × (Int × (Int × Bool)))))))))))))))))) => (bif x13.2.2.2.1 then (some (.inr (.inl false))) else (some (.inl (x13.1, (x13.2.1, ((IntKind.wrap .i64 (x13.2.2.1 + (1 : Int))), x13.2.2.2.2.2.2.2.2.2.2.2)))))))))) else none) else (some (.inr (.inr ())))))
theorem bursarlaw14_HoldKeeps.t8_ok : ∀ s : Vals bursarlaw14_HoldKeeps.sh8.tys, turnK P bursarlaw14_HoldKeeps.H (lp [(0, NodeT.summ ⟨bursarlaw14_HoldKeeps.sh8_0, bursarlaw14_HoldKeeps.os8_0, bursarlaw14_HoldKeeps.l8_0⟩ 0), (8, NodeT.summ ⟨bursarlaw14_HoldKeeps.sh8_8, bursarlaw14_HoldKeeps.os8_8, bursarlaw14_HoldKeeps.l8_8⟩ 0), (41, NodeT.summ ⟨bursarlaw14_HoldKeeps.sh8_41, bursarlaw14_HoldKeeps.os8_41, bursarlaw14_HoldKeeps.l8_41⟩ 0), (44, NodeT.summ ⟨bursarlaw14_HoldKeeps.sh8_44, bursarlaw14_HoldKeeps.os8_44, bursarlaw14_HoldKeeps.l8_44⟩ 0)]) (bodyAt (codeOf P 5) 8) 0 bursarlaw14_HoldKeeps.sh8 bursarlaw14_HoldKeeps.os8 s some = bursarlaw14_HoldKeeps.t8 s := fun s => by kernel_rfl
noncomputable def bursarlaw14_HoldKeeps.l8 : ((List (Int × (Int × Int))) × (Int × (Int × (ByteArray × (ByteArray × (ByteArray × (Int × (Int × (Int × Bool))))))))) → Option (Bool ⊕ Unit) := rounds bursarlaw14_HoldKeeps.t8
noncomputable def bursarlaw14_HoldKeeps.f (a : ((ByteArray × (ByteArray × (ByteArray × (Int × (Int × (Int × Bool)))))) × (List (Int × (Int × Int))))) : Option Bool := (((bursarlaw14_Few.f a.1)).bind fun (x2 : (ByteArray × (ByteArray × (ByteArray × (Int × (Int × (Int × Bool))))))) => (((hold_May.f x2)).bind fun (x3 : Bool) => (bif (!x3) then (some true) else (((bursarlaw14_HoldKeeps.l8 (a.2, (x2.2.2.2.2.1, ((0 : Int), x2))))).bind fun (x4 : (Bool ⊕ PUnit)) => (match x4 with | .inl x5 => (some x5) | .inr x5 => (some true))))))
theorem bursarlaw14_HoldKeeps.ok : ∀ a : Vals bursarlaw14_HoldKeeps.As.tys, fnK P bursarlaw14_HoldKeeps.H (lp [(8, NodeT.summ ⟨bursarlaw14_HoldKeeps.sh8, bursarlaw14_HoldKeeps.os8, bursarlaw14_HoldKeeps.l8⟩ 0)]) 5 bursarlaw14_HoldKeeps.As bursarlaw14_HoldKeeps.m a some = bursarlaw14_HoldKeeps.f a := fun a => by kernel_rfl
noncomputable abbrev bursarlaw14_HoldKeeps.row : Row := fnRow 5 bursarlaw14_HoldKeeps.As bursarlaw14_HoldKeeps.m bursarlaw14_HoldKeeps.f
theorem bursarlaw14_HoldKeeps.row_ok : RowOK P G0 bursarlaw14_HoldKeeps.row := row_told bursarlaw14_HoldKeeps.hok (lp_of (l := [(8, NodeT.summ ⟨bursarlaw14_HoldKeeps.sh8, bursarlaw14_HoldKeeps.os8, bursarlaw14_HoldKeeps.l8⟩ 0)]) ⟨loop_sum bursarlaw14_HoldKeeps.hok (by kernel_rfl) (by kernel_rfl) (l := [(0, NodeT.summ ⟨bursarlaw14_HoldKeeps.sh8_0, bursarlaw14_HoldKeeps.os8_0, bursarlaw14_HoldKeeps.l8_0⟩ 0), (8, NodeT.summ ⟨bursarlaw14_HoldKeeps.sh8_8, bursarlaw14_HoldKeeps.os8_8, bursarlaw14_HoldKeeps.l8_8⟩ 0), (41, NodeT.summ ⟨bursarlaw14_HoldKeeps.sh8_41, bursarlaw14_HoldKeeps.os8_41, bursarlaw14_HoldKeeps.l8_41⟩ 0), (44, NodeT.summ ⟨bursarlaw14_HoldKeeps.sh8_44, bursarlaw14_HoldKeeps.os8_44, bursarlaw14_HoldKeeps.l8_44⟩ 0)]) ⟨place_sum bursarlaw14_HoldKeeps.hok (by kernel_rfl) (l := []) trivial bursarlaw14_HoldKeeps.sh8_0 bursarlaw14_HoldKeeps.os8_0 bursarlaw14_HoldKeeps.l8_0 bursarlaw14_HoldKeeps.l8_0_ok, ⟨place_sum bursarlaw14_HoldKeeps.hok (by kernel_rfl) (l := []) trivial bursarlaw14_HoldKeeps.sh8_8 bursarlaw14_HoldKeeps.os8_8 bursarlaw14_HoldKeeps.l8_8 bursarlaw14_HoldKeeps.l8_8_ok, ⟨place_sum bursarlaw14_HoldKeeps.hok (by kernel_rfl) (l := []) trivial bursarlaw14_HoldKeeps.sh8_41 bursarlaw14_HoldKeeps.os8_41 bursarlaw14_HoldKeeps.l8_41 bursarlaw14_HoldKeeps.l8_41_ok, ⟨place_sum bursarlaw14_HoldKeeps.hok (by kernel_rfl) (l := []) trivial bursarlaw14_HoldKeeps.sh8_44 bursarlaw14_HoldKeeps.os8_44 bursarlaw14_HoldKeeps.l8_44 bursarlaw14_HoldKeeps.l8_44_ok, trivial⟩⟩⟩⟩ bursarlaw14_HoldKeeps.sh8 bursarlaw14_HoldKeeps.os8 (by kernel_rfl) bursarlaw14_HoldKeeps.t8 bursarlaw14_HoldKeeps.t8_ok, trivial⟩) (fun _ => rfl) bursarlaw14_HoldKeeps.ok
end Go.Proofs.Ytloambokbipnjaa
end
section
/- HoldKeeps: what the code computes is true, for all holds and acts. By this session. -/
set_option linter.unusedVariables false
set_option linter.unusedSimpArgs false
namespace Go.Proofs.Ytloambokbipnjaa
open Go Go.Fw
/-- a hold that may be, part by part -/
structure Ok (r q p : ByteArray) (ap cp un : Int) (op : Bool) : Prop where
  sz : r.size ≤ 4611686018427387904
  ref : refB r = true
  card : cardB p = true
  acq : acqB q = true
  til : untilB un = true
  lo : 0 ≤ cp
  le : cp ≤ ap
  lt : op = true → cp < ap
  hi : ap ≤ 9223372036854775807
theorem Ok.may {r q p : ByteArray} {ap cp un : Int} {op : Bool} (h : Ok r q p ap cp un op) : mayB (r, (q, (p, (ap, (cp, (un, op)))))) = true := by
  have h1 := h.lt
  unfold mayB
  simp only [h.ref, h.card, h.acq, h.til, decide_eq_true h.lo, decide_eq_true h.le, Bool.true_and]
  cases op with
  | false => rfl
  | true => rw [decide_eq_true (h1 rfl)]; rfl
theorem Ok.of {r q p : ByteArray} {ap cp un : Int} {op : Bool} (hs : r.size ≤ 4611686018427387904) (ha : ap ≤ 9223372036854775807) (h : mayB (r, (q, (p, (ap, (cp, (un, op)))))) = true) : Ok r q p ap cp un op := by
  unfold mayB at h
  simp only [Bool.and_eq_true, decide_eq_true_eq, Bool.or_eq_true, Bool.not_eq_true'] at h
  obtain ⟨h1, h2, h3, h4, h5, h6, h7⟩ := h
  refine ⟨hs, h1, h2, h3, h4, h5, h6, fun ho => ?_, ha⟩
  rcases h7 with h7 | h7
  · rw [h7] at ho; cases ho
  · exact h7
section
variable {r q p : ByteArray} {ap cp un : Int} {op : Bool}
theorem Ok.mayF (h : Ok r q p ap cp un op) : hold_May.f (r, (q, (p, (ap, (cp, (un, op)))))) = some true := by rw [hold_May_is _ h.sz, h.may]
theorem Ok.leftF (h : Ok r q p ap cp un op) : hold_Left.f (r, (q, (p, (ap, (cp, (un, op)))))) = some (bif op then ap - cp else 0) := by rw [hold_Left_is h.sz h.may h.hi]; rfl
/-- nothing -/
abbrev noHd : Hd := (bs [], (bs [], (bs [], ((0 : Int), ((0 : Int), ((0 : Int), false))))))
theorem take_is (h : Ok r q p ap cp un op) (n : Int) (l : Bool) :
    (∃ e, hold_Take.f ((r, (q, (p, (ap, (cp, (un, op)))))), (n, l)) = some (noHd, e) ∧ e ≠ 0 ∧ (op = false → e = 14)) ∨
    (op = true ∧ 1 ≤ n ∧ n ≤ ap - cp ∧ hold_Take.f ((r, (q, (p, (ap, (cp, (un, op)))))), (n, l)) = some ((r, (q, (p, (ap, (cp + n, (un, !l && decide (cp + n < ap))))))), 0)) := by
  have h1 := h.lo; have h2 := h.le; have h3 := h.hi
  unfold hold_Take.f
  simp only [h.mayF, Option.bind_some, Bool.not_true, cond_false]
  cases op with
  | false => exact .inl ⟨14, rfl, by decide, fun _ => rfl⟩
  | true =>
    simp only [Bool.not_true, cond_false]
    have w : IntKind.wrap .i64 (ap - cp) = ap - cp := wrap_i64 (by omega) (by omega)
    simp only [w]
    by_cases a1 : n < 1
    · rw [decide_eq_true a1]; exact .inl ⟨1, rfl, by decide, fun h => by cases h⟩
    by_cases a2 : n > ap - cp
    · rw [decide_eq_false a1, decide_eq_true a2]; exact .inl ⟨13, rfl, by decide, fun h => by cases h⟩
    have w2 : IntKind.wrap .i64 (cp + n) = cp + n := wrap_i64 (by omega) (by omega)
    simp only [decide_eq_false a1, decide_eq_false a2, cond_false, w2]
    refine .inr ⟨by trivial, by omega, by omega, ?_⟩
    cases l <;> rfl
theorem less_is (h : Ok r q p ap cp un op) (n : Int) :
    (∃ e, hold_Less.f ((r, (q, (p, (ap, (cp, (un, op)))))), n) = some (noHd, e) ∧ e ≠ 0 ∧ (op = false → e = 14)) ∨
    (op = true ∧ 1 ≤ n ∧ n ≤ ap - cp ∧ hold_Less.f ((r, (q, (p, (ap, (cp, (un, op)))))), n) = some ((r, (q, (p, (ap - n, (cp, (un, decide (cp < ap - n))))))), 0)) := by
  have h1 := h.lo; have h2 := h.le; have h3 := h.hi
  unfold hold_Less.f
  simp only [h.mayF, Option.bind_some, Bool.not_true, cond_false]
  cases op with
  | false => exact .inl ⟨14, rfl, by decide, fun _ => rfl⟩
  | true =>
    simp only [Bool.not_true, cond_false]
    have w : IntKind.wrap .i64 (ap - cp) = ap - cp := wrap_i64 (by omega) (by omega)
    simp only [w]
    by_cases a1 : n < 1
    · rw [decide_eq_true a1]; exact .inl ⟨1, rfl, by decide, fun h => by cases h⟩
    by_cases a2 : n > ap - cp
    · rw [decide_eq_false a1, decide_eq_true a2]; exact .inl ⟨13, rfl, by decide, fun h => by cases h⟩
    have w2 : IntKind.wrap .i64 (ap - n) = ap - n := wrap_i64 (by omega) (by omega)
    simp only [decide_eq_false a1, decide_eq_false a2, cond_false, cond_true, w2]
    exact .inr ⟨by trivial, by omega, by omega, by trivial⟩
theorem undo_is (h : Ok r q p ap cp un op) :
    (op = false ∧ hold_Undo.f (r, (q, (p, (ap, (cp, (un, op)))))) = some (noHd, 14)) ∨
    (op = true ∧ hold_Undo.f (r, (q, (p, (ap, (cp, (un, op)))))) = some ((r, (q, (p, (cp, (cp, (un, false)))))), 0)) := by
  unfold hold_Undo.f
  simp only [h.mayF, Option.bind_some, Bool.not_true, cond_false]
  cases op with
  | false => exact .inl ⟨rfl, rfl⟩
  | true =>
    refine .inr ⟨rfl, ?_⟩
    simp only [Bool.not_true, cond_false, cond_true, show decide (cp < cp) = false from decide_eq_false (by omega)]
theorem lapse_is (h : Ok r q p ap cp un op) (n : Int) :
    hold_Lapse.f ((r, (q, (p, (ap, (cp, (un, op)))))), n) = some ((r, (q, (p, (ap, (cp, (un, op && !decide (n > un))))))), op && decide (n > un)) := by
  unfold hold_Lapse.f
  simp only [h.mayF, Option.bind_some, Bool.not_true, cond_false]
  cases op <;> rfl
theorem more_is (h : Ok r q p ap cp un op) (n : Int) (hn : -9223372036854775808 ≤ n ∧ n ≤ 9223372036854775807) (u : Int) :
    (∃ e, hold_More.f ((r, (q, (p, (ap, (cp, (un, op)))))), (n, u)) = some (noHd, e) ∧ e ≠ 0 ∧ (op = false → e = 14)) ∨
    (op = true ∧ 1 ≤ n ∧ ap + n ≤ 9223372036854775807 ∧ untilB u = true ∧ hold_More.f ((r, (q, (p, (ap, (cp, (un, op)))))), (n, u)) = some ((r, (q, (p, (ap + n, (cp, (u, decide (cp < ap + n))))))), 0)) := by
  have h1 := h.lo; have h2 := h.le; have h3 := h.hi
  unfold hold_More.f
  simp only [h.mayF, Option.bind_some, Bool.not_true, cond_false]
  cases op with
  | false => exact .inl ⟨14, rfl, by decide, fun _ => rfl⟩
  | true =>
    simp only [Bool.not_true, cond_false]
    by_cases a1 : n < 1
    · rw [decide_eq_true a1]; exact .inl ⟨1, rfl, by decide, fun h => by cases h⟩
    rw [decide_eq_false a1, until_is]
    cases hu : untilB u with
    | false => exact .inl ⟨1, rfl, by decide, fun h => by cases h⟩
    | true =>
      have hadd : money_Add.f (ap, n) = some (sumS (ap + n)) := by
        unfold money_Add.f
        rw [money_Sum_is (l := [ap, n]) (by simp) (fun a ha => by
          simp only [List.mem_cons, List.not_mem_nil, or_false] at ha
          rcases ha with rfl | rfl <;> omega)]
        simp
      simp only [Option.bind_some, Bool.not_true, cond_false, hadd]
      unfold sumS
      by_cases hf : ap + n ≤ 9223372036854775807
      · rw [show fits (ap + n) = true by unfold fits; rw [decide_eq_true hf, decide_eq_true (by omega)]; rfl]
        exact .inr ⟨by trivial, by omega, hf, by trivial, rfl⟩
      · rw [show fits (ap + n) = false by unfold fits; rw [decide_eq_false hf, Bool.and_false]]
        exact .inl ⟨2, rfl, by decide, fun h => by cases h⟩
abbrev Act := Int × (Int × Int)
/-- one that was done: the hold then, and it may be -/
structure Done (r q p : ByteArray) (ap cp un : Int) (op : Bool) (x : Hd) (tk : Int) : Prop where
  is : ∃ ap' un' op', x = (r, (q, (p, (ap', (tk, (un', op')))))) ∧ Ok r q p ap' tk un' op' ∧ (op = false → ap' = ap ∧ tk = cp ∧ un' = un ∧ op' = false)
open bursarlaw14_HoldKeeps in
/-- what is done to a hold -/
theorem switch (h : Ok r q p ap cp un op) (acts : List Act) (i d n am : Int) (hn : -9223372036854775808 ≤ am ∧ am ≤ 9223372036854775807) :
    ∃ tk e x, l8_8 (acts, (cp, (i, ((0 : Int), (d, ((d == 0), (r, (q, (p, (ap, (cp, (un, (op, (d, (n, (am, (r, (q, (p, (ap, (cp, (un, op)))))))))))))))))))))) =
      some (.inr (acts, (tk, (i, (e, (r, (q, (p, (ap, (cp, (un, (op, (d, (n, (am, x))))))))))))))) ∧
      ((e ≠ 0 ∧ x = noHd ∧ tk = cp ∧ (op = false → e = 14)) ∨ (e = 0 ∧ Done r q p ap cp un op x tk)) := by
  have h1 := h.lo; have h2 := h.le; have h3 := h.hi; have h4 := h.lt
  unfold l8_8
  by_cases d0 : d = 0
  · subst d0
    simp only [beq_self_eq_true, cond_true]
    rcases more_is h am hn n with ⟨e, he, e0, ec⟩ | ⟨ho, a1, a2, hu, he⟩
    · refine ⟨cp, e, noHd, ?_, .inl ⟨e0, rfl, rfl, ec⟩⟩
      rw [he]
      simp only [Option.bind_some, show (e == 0) = false from by simp [e0], cond_false]
    · subst ho
      have h4 := h4 rfl
      have ok : Ok r q p (ap + am) cp n (decide (cp < ap + am)) := ⟨h.sz, h.ref, h.card, h.acq, hu, h1, by omega, fun _ => by omega, a2⟩
      refine ⟨cp, 0, _, ?_, .inr ⟨rfl, ⟨⟨_, _, _, rfl, ok, fun h => by cases h⟩⟩⟩⟩
      rw [he]
      simp only [Option.bind_some, beq_self_eq_true, cond_true, ok.leftF, h.leftF]
      simp only [show decide (cp < ap + am) = true from decide_eq_true (by omega), cond_true]
      have w : IntKind.wrap .i64 (ap - cp + am) = ap - cp + am := wrap_i64 (by omega) (by omega)
      simp only [w, show (ap + am - cp != ap - cp + am) = false from by simp; omega, show (n != n) = false from by simp, cond_false]
  simp only [show (d == 0) = false from by simp [d0], cond_false]
  by_cases d1 : d = 1
  · subst d1
    simp only [beq_self_eq_true, cond_true]
    rcases take_is h am (Int.tmod n 2 != 0) with ⟨e, he, e0, ec⟩ | ⟨ho, a1, a2, he⟩
    · refine ⟨cp, e, noHd, ?_, .inl ⟨e0, rfl, rfl, ec⟩⟩
      rw [he]
      simp only [Option.bind_some, show (e == 0) = false from by simp [e0], cond_false]
    · subst ho
      have h4 := h4 rfl
      have ok : Ok r q p ap (cp + am) un (!(Int.tmod n 2 != 0) && decide (cp + am < ap)) := ⟨h.sz, h.ref, h.card, h.acq, h.til, by omega, by omega, fun hx => by
        simp only [Bool.and_eq_true, decide_eq_true_eq] at hx; exact hx.2, h3⟩
      have w : IntKind.wrap .i64 (cp + am) = cp + am := wrap_i64 (by omega) (by omega)
      have w2 : IntKind.wrap .i64 (ap - cp - am) = ap - cp - am := wrap_i64 (by omega) (by omega)
      refine ⟨cp + am, 0, _, ?_, .inr ⟨rfl, ⟨⟨_, _, _, rfl, ok, fun h => by cases h⟩⟩⟩⟩
      rw [he]
      simp only [Option.bind_some, beq_self_eq_true, cond_true, ok.leftF, h.leftF, w, w2]
      by_cases ht : Int.tmod n 2 = 0
      · have b1 : (Int.tmod n 2 == 0) = true := by simp [ht]
        have b2 : (Int.tmod n 2 != 0) = false := by simp [ht]
        simp only [b1, b2, Bool.not_false, Bool.true_and, cond_true]
        by_cases hx : cp + am < ap
        · simp only [decide_eq_true hx, cond_true, show (ap - (cp + am) != ap - cp - am) = false from by simp; omega, cond_false]
        · simp only [decide_eq_false hx, cond_false, show ((0 : Int) != ap - cp - am) = false from by simp; omega]
      · have b1 : (Int.tmod n 2 == 0) = false := by simp [ht]
        have b2 : (Int.tmod n 2 != 0) = true := by simp [ht]
        simp only [b1, b2, cond_false]
  simp only [show (d == 1) = false from by simp [d1], cond_false]
  by_cases d2 : d = 2
  · subst d2
    simp only [beq_self_eq_true, cond_true]
    rcases less_is h am with ⟨e, he, e0, ec⟩ | ⟨ho, a1, a2, he⟩
    · refine ⟨cp, e, noHd, ?_, .inl ⟨e0, rfl, rfl, ec⟩⟩
      rw [he]
      simp only [Option.bind_some, show (e == 0) = false from by simp [e0], cond_false]
    · subst ho
      have h4 := h4 rfl
      have ok : Ok r q p (ap - am) cp un (decide (cp < ap - am)) := ⟨h.sz, h.ref, h.card, h.acq, h.til, h1, by omega, fun hx => by
        simp only [decide_eq_true_eq] at hx; exact hx, by omega⟩
      have w2 : IntKind.wrap .i64 (ap - cp - am) = ap - cp - am := wrap_i64 (by omega) (by omega)
      refine ⟨cp, 0, _, ?_, .inr ⟨rfl, ⟨⟨_, _, _, rfl, ok, fun h => by cases h⟩⟩⟩⟩
      rw [he]
      simp only [Option.bind_some, beq_self_eq_true, cond_true, ok.leftF, h.leftF, w2]
      by_cases hx : cp < ap - am
      · simp only [decide_eq_true hx, cond_true, show (ap - am - cp != ap - cp - am) = false from by simp; omega, cond_false]
      · simp only [decide_eq_false hx, cond_false, show ((0 : Int) != ap - cp - am) = false from by simp; omega]
  simp only [show (d == 2) = false from by simp [d2], cond_false]
  by_cases d3 : d = 3
  · subst d3
    simp only [beq_self_eq_true, cond_true]
    rcases undo_is h with ⟨ho, he⟩ | ⟨ho, he⟩
    · refine ⟨cp, 14, noHd, ?_, .inl ⟨by decide, rfl, rfl, fun _ => rfl⟩⟩
      rw [he]
      rfl
    · subst ho
      have ok : Ok r q p cp cp un false := ⟨h.sz, h.ref, h.card, h.acq, h.til, h1, by omega, fun hx => (by cases hx), by omega⟩
      refine ⟨cp, 0, _, ?_, .inr ⟨rfl, ⟨⟨_, _, _, rfl, ok, fun h => by cases h⟩⟩⟩⟩
      rw [he]
      simp only [Option.bind_some, beq_self_eq_true, cond_true, ok.leftF, cond_false]
      rfl
  simp only [show (d == 3) = false from by simp [d3], cond_false]
  have ok : Ok r q p ap cp un (op && !decide (n > un)) := ⟨h.sz, h.ref, h.card, h.acq, h.til, h1, h2, fun hx => by
    simp only [Bool.and_eq_true] at hx; exact h4 hx.1, h3⟩
  refine ⟨cp, 0, _, ?_, .inr ⟨rfl, ⟨⟨_, _, _, rfl, ok, fun h => ⟨rfl, rfl, rfl, by rw [h]; rfl⟩⟩⟩⟩⟩
  rw [lapse_is h]
  cases op with
  | false => rfl
  | true =>
    cases hx : decide (n > un) with
    | false => rfl
    | true =>
      rw [hx] at ok
      have ok' : Ok r q p ap cp un false := ok
      have e := ok'.leftF
      simp only [Option.bind_some, Bool.true_and, cond_true, Bool.not_true, beq_self_eq_true, cond_false] at e ⊢
      rw [e]
      rfl
open bursarlaw14_HoldKeeps in
theorem turn (h : Ok r q p ap cp un op) (acts : List Act) (hf : ∀ a ∈ acts, -9223372036854775808 ≤ a.2.2 ∧ a.2.2 ≤ 9223372036854775807) (i : Nat) (hi : i < acts.length) (h30 : i < 30) :
    ∃ ap' cp' un' op', t8 (acts, (cp, ((i : Int), (r, (q, (p, (ap, (cp, (un, op))))))))) = some (.inl (acts, (cp', (((i + 1 : Nat) : Int), (r, (q, (p, (ap', (cp', (un', op')))))))))) ∧ Ok r q p ap' cp' un' op' := by
  have w := wrap_up (n := i) (by omega)
  have d1 : decide ((i : Int) < (acts.length : Int)) = true := decide_eq_true (by omega)
  have d2 : decide ((i : Int) < 30) = true := decide_eq_true (by omega)
  have d3 : decide ((0 : Int) ≤ (i : Int)) = true := decide_eq_true (by omega)
  have e0 : l8_0 (acts, (cp, ((i : Int), (r, (q, (p, (ap, (cp, (un, op))))))))) = some (acts, (cp, ((i : Int), (true, (r, (q, (p, (ap, (cp, (un, op)))))))))) := by
    simp only [l8_0, d1, d2, cond_true]
  obtain ⟨a, ha⟩ : ∃ a : Act, List.getD acts i (Ty.dflt T_bursarlaw14_Act) = a := ⟨_, rfl⟩
  have hb : -9223372036854775808 ≤ a.2.2 ∧ a.2.2 ≤ 9223372036854775807 := by
    rw [← ha, getD_at hi]
    exact hf _ (List.getElem_mem hi)
  obtain ⟨tk, e, x, e1, hc⟩ := switch h acts (i : Int) a.1 a.2.1 a.2.2 hb
  simp only [t8, e0, Option.bind_some, cond_true, d1, d3, Bool.and_self, Int.toNat_natCast, ha]
  rw [e1]
  rcases hc with ⟨e2, rfl, rfl, e3⟩ | ⟨rfl, ⟨ap', un', op', rfl, ok, hcl⟩⟩
  · refine ⟨ap, tk, un, op, ?_, h⟩
    have e4 : l8_41 (acts, (tk, ((i : Int), (e, (r, (q, (p, (ap, (tk, (un, (op, (a.1, (a.2.1, (a.2.2, noHd)))))))))))))) = some (acts, (tk, ((i : Int), (false, (r, (q, (p, (ap, (tk, (un, op)))))))))) := by
      simp only [l8_41, beq_self_eq_true, Bool.and_true, Bool.not_true, cond_false]
      cases op with
      | true => rfl
      | false =>
        rw [e3 rfl]
        simp only [Bool.not_false, cond_true]
        cases decide (a.1 ≥ 0) with
        | false => rfl
        | true => cases decide (a.1 < 4) <;> rfl
    simp only [show (e != 0) = true from by simp [e2], cond_true, Option.bind_some]
    rw [e4]
    simp only [Option.bind_some, cond_false, w]
  · refine ⟨ap', tk, un', op', ?_, ok⟩
    have k1 := ok.lo; have k2 := ok.le; have k4 := ok.lt
    have e4 : l8_44 (acts, (tk, ((i : Int), (r, (q, (p, (ap, (cp, (un, (op, (r, (q, (p, (ap', (tk, (un', op')))))))))))))))) = some (acts, (tk, ((i : Int), (false, (r, (q, (p, (ap, (cp, (un, (op, (r, (q, (p, (ap', (tk, (un', op'))))))))))))))))) := by
      have lf : decide ((bif op' then ap' - tk else 0) < 0) = false := by
        cases op' with
        | false => rfl
        | true => exact decide_eq_false (by simp only [cond_true]; omega)
      simp only [l8_44, ok.mayF, ok.leftF, Option.bind_some, Bool.not_true, cond_false, show (tk != tk) = false from by simp, show decide (tk > ap') = false from decide_eq_false (by omega), lf, beq_self_eq_true]
      cases op with
      | true => rfl
      | false =>
        obtain ⟨rfl, rfl, rfl, rfl⟩ := hcl rfl
        simp only [Bool.not_false, cond_true, beq_self_eq_true, Bool.and_true, Bool.not_true]
    simp only [show ((0 : Int) != 0) = false from rfl, cond_false, Option.bind_some]
    rw [e4]
    simp only [Option.bind_some, cond_false, w]
end
open bursarlaw14_HoldKeeps in
theorem keeps_loop (acts : List Act) (hf : ∀ a ∈ acts, -9223372036854775808 ≤ a.2.2 ∧ a.2.2 ≤ 9223372036854775807) (m : Nat) : ∀ (i : Nat) {r q p : ByteArray} {ap cp un : Int} {op : Bool}, Ok r q p ap cp un op → min acts.length 30 - i = m →
    l8 (acts, (cp, ((i : Int), (r, (q, (p, (ap, (cp, (un, op))))))))) = some (.inr ()) := by
  have last : ∀ (i : Nat) {r q p : ByteArray} {ap cp un : Int} {op : Bool}, ¬ (i < acts.length ∧ i < 30) → l8 (acts, (cp, ((i : Int), (r, (q, (p, (ap, (cp, (un, op))))))))) = some (.inr ()) := by
    intro i r q p ap cp un op hn
    unfold l8
    refine rounds_end ?_
    by_cases h1 : i < acts.length
    · have d1 : decide ((i : Int) < (acts.length : Int)) = true := decide_eq_true (by omega)
      have d2 : decide ((i : Int) < 30) = false := decide_eq_false (by omega)
      simp only [t8, l8_0, d1, d2, cond_true, Option.bind_some, cond_false]
    · have d1 : decide ((i : Int) < (acts.length : Int)) = false := decide_eq_false (by omega)
      simp only [t8, l8_0, d1, Option.bind_some, cond_false]
  induction m with
  | zero => intro i r q p ap cp un op h hm; exact last i (by omega)
  | succ m ih =>
    intro i r q p ap cp un op h hm
    by_cases hc : i < acts.length ∧ i < 30
    · obtain ⟨ap', cp', un', op', ht, ok⟩ := turn h acts hf i hc.1 hc.2
      have := ih (i + 1) ok (by omega)
      unfold l8 at this ⊢
      rw [rounds_next ht]
      exact this
    · exact last i hc
theorem bursarlaw14_HoldKeeps_is (h : Hd) (acts : List Act) (hr : h.2.2.2.1 ≤ 9223372036854775807) (hf : ∀ a ∈ acts, -9223372036854775808 ≤ a.2.2 ∧ a.2.2 ≤ 9223372036854775807) : bursarlaw14_HoldKeeps.f (h, acts) = some true := by
  obtain ⟨r, q, p, ap, cp, un, op⟩ := h
  have hz := cut_size r
  unfold bursarlaw14_HoldKeeps.f
  rw [few_is]
  simp only [few, Option.bind_some]
  rw [hold_May_is _ (show (cut r).size ≤ _ by omega)]
  cases hm : mayB (cut r, (cut q, (cut p, (ap, (cp, (un, op)))))) with
  | false => rfl
  | true =>
    have := keeps_loop acts hf _ 0 (Ok.of (by omega) hr hm) rfl
    simp only [Option.bind_some, Bool.not_true, cond_false]
    rw [show ((0 : Int)) = ((0 : Nat) : Int) from rfl, this]
    rfl
end Go.Proofs.Ytloambokbipnjaa
end
section
/- HoldKeeps answers true whatever the hold and the acts are, and what was handed in reads as it did: the given statement holdKeeps. -/
set_option linter.unusedVariables false
set_option linter.unusedSimpArgs false
namespace Go.Proofs.Ytloambokbipnjaa.holdKeeps
open Go Go.Fw Go.ChangeShapes Go.WideShapes Go.ChangeAt Go.RowKit
theorem own : ownKnob Try.prog.godebug = none := by kernel_rfl
theorem laidOut : laidOutB Try.prog = true := by kernel_rfl
set_option maxRecDepth 100000 in
theorem lifted (os : Os) (started : os.Started) (H : Type) (enc : TypeId × Value → H) :
    ReturnsInHanded {} Try.checked os 5 .any (Rows.holdKeepsSpec.pre6 enc Try.prog Try.f5 Rows.holdKeepsRow.domain false) (Rows.holdKeepsSpec.post enc Try.prog Try.f5 false true false false) := by
  refine returnsInHanded_of_change_sized (C := Try.checked) own started (by kernel_rfl) Try.func5
    (ChangeSpec.witness6 (enc := enc) (C := Try.checked) false ⟨#[], #[.agg #[.string ByteArray.empty, .string ByteArray.empty, .string ByteArray.empty, .int .i64 0, .int .i64 0, .int .i64 0, .bool false], .slice none 0 0], []⟩ 8 (by kernel_rfl) (by kernel_rfl) (by kernel_rfl) (by kernel_rfl)) ?_
  intro W base args ds gs before hval hW _ _ _
  exact law_call (P := Try.prog) (g := 5) (tb := Try.f5.resultTypes.getD 0 0) laidOut bursarlaw14_HoldKeeps.row_ok (by kernel_rfl) (fun a => by kernel_rfl) (by kernel_rfl) (by kernel_rfl) rfl
    (fun ds h => match ds, h with | [_, _], _ => ⟨rfl, rfl, rfl⟩) (fun a ha => bursarlaw14_HoldKeeps_is a.1 a.2 (bounds_i64 ha.1.2.2.2.1).2 fun x hx => bounds_i64 (ha.2.2 x hx).2.2) hval hW
set_option maxRecDepth 100000 in
theorem over : Rows.holdKeepsRow.holds Try.pinned (OpenSpec.ofChange Rows.holdKeepsSpec) :=
  OpenClaim.holds_of_wide 5 Try.f5 rfl rfl rfl rfl rfl rfl rfl ⟨rfl, rfl, rfl, rfl, rfl⟩ rfl rfl rfl rfl rfl (by kernel_rfl) Try.func5 (by kernel_rfl)
    (of_decide_eq_true (by kernel_rfl)) (by unfold Func.isWrapper; first | (rw [if_pos (by decide +kernel)]; kernel_rfl) | (rw [if_neg (by decide +kernel)]; exact ⟨rfl, rfl⟩))
    (fun os started H enc _ => lifted os started H enc)
end Go.Proofs.Ytloambokbipnjaa.holdKeeps
namespace Go.Proofs.Ytloambokbipnjaa
/-- The given statement. -/
theorem holdKeeps_holds : Rows.HoldKeepsSaid := holdKeeps.over
#print axioms holdKeeps_holds
end Go.Proofs.Ytloambokbipnjaa
end
