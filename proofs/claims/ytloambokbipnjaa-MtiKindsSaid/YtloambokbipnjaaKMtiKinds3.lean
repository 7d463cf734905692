/- MtiKinds answers true whatever the class is, and what was handed in reads as it did: the given statement mtiKinds. -/
import Derived.ChangeSame
import Derived.ChangeArms
import Derived.ChangeSlices
import Derived.Below
import Derived.Deep.Slices
import Derived.WalkKit
import Derived.ProofKit
import Derived.OpenShut
import Derived.ShutString
import Derived.ChangeOld
import Derived.Carry
import Derived.SizedLaws
import Derived.Test.YtloambokbipnjaaProg
import Derived.KernelRfl
import Derived.Laws.Externs
import Derived.Lib.Bytealg
import Derived.Laws.Strings
import Derived.Test.YtloambokbipnjaaRows
import Derived.Test.YtloambokbipnjaaKMtiKinds2
section
/- A state is cut down to a shape. By this session. -/
set_option linter.unusedVariables false
set_option linter.unusedSimpArgs false
namespace Go.Fw
variable {P : Program} {α : Type} {r : α}

theorem ren_d {σ : Nat → Nat} {x : V} {d : D} (h : renV σ x = .d d) : x = .d d := by
  cases x <;> simp only [renV] at h <;> first | exact h | cases h
theorem rens_allD {σ : Nat → Nat} : ∀ {xs : List V} {ds : List D}, renVs σ xs = ds.map .d → xs = ds.map .d
  | [], ds, h => by
    cases ds with
    | nil => rfl
    | cons d ds => simp [renVs] at h
  | x :: xs, ds, h => by
    cases ds with
    | nil => simp [renVs] at h
    | cons d ds =>
      simp only [renVs, List.map_cons, List.cons.injEq] at h ⊢
      exact ⟨ren_d h.1, rens_allD h.2⟩
theorem rens_map {σ : Nat → Nat} : ∀ (ds : List D), renVs σ (ds.map .d) = ds.map .d
  | [] => rfl
  | d :: ds => by simp only [List.map_cons, renVs, renV, rens_map ds]
theorem mkFn_ren {σ : Nat → Nat} {f : FuncId} {vs xs : List V} (h : vs = renVs σ xs) (hn : (allD vs).isSome = false) : V.fn f vs = renV σ (mkFn f xs) := by
  unfold mkFn
  split
  · rename_i ds hd
    have := allD_spec _ _ hd
    rw [this, rens_map] at h
    rw [h, allD_map] at hn
    cases hn
  · simp only [renV, h]
theorem mkAg_ren {σ : Nat → Nat} {vs xs : List V} (h : vs = renVs σ xs) (hn : (allD vs).isSome = false) : V.ag vs = renV σ (mkAg xs) := by
  unfold mkAg
  split
  · rename_i ds hd
    have := allD_spec _ _ hd
    rw [this, rens_map] at h
    rw [h, allD_map] at hn
    cases hn
  · simp only [renV, h]
theorem mkFn_told {σ : Nat → Nat} {f : FuncId} {ds : List D} {xs : List V} (h : ds.map V.d = renVs σ xs) : V.d (.fn f ds) = renV σ (mkFn f xs) := by
  have := rens_allD h.symm
  subst this
  simp only [mkFn, allD_map, renV]
theorem mkAg_told {σ : Nat → Nat} {ds : List D} {xs : List V} (h : ds.map V.d = renVs σ xs) : V.d (.ag ds) = renV σ (mkAg xs) := by
  have := rens_allD h.symm
  subst this
  simp only [mkAg, allD_map, renV]

section
variable {l : List Nat} {nl : List Bool}
mutual
theorem Sh.get_put : ∀ (s : Sh) (v : V) (ds : List D), s.get l nl v = some ds → ds.length = s.tys.length ∧ ∀ rest, v = renV (sig l) (s.put nl (ds ++ rest)).1 ∧ (s.put nl (ds ++ rest)).2 = rest
  | .x T, v, ds, h => by
    simp only [Sh.get] at h
    split at h
    · injection h with h; subst h
      exact ⟨rfl, fun rest => ⟨rfl, rfl⟩⟩
    · cases h
  | .c t, v, ds, h => by
    simp only [Sh.get] at h
    split at h
    · obtain ⟨h1, h2⟩ := cond_some h
      injection h2 with h2; subst h2
      exact ⟨rfl, fun rest => ⟨by rw [constIs_eq h1]; rfl, rfl⟩⟩
    · cases h
  | .pt j o, v, ds, h => by
    simp only [Sh.get] at h
    split at h
    · obtain ⟨h1, h2⟩ := cond_some h
      injection h2 with h2; subst h2
      simp only [Bool.and_eq_true, beq_iff_eq] at h1
      exact ⟨rfl, fun rest => ⟨by simp only [Sh.put, renV, h1.1, h1.2], rfl⟩⟩
    · cases h
  | .own j w, v, ds, h => by
    simp only [Sh.get] at h
    split at h
    · obtain ⟨h1, h2⟩ := cond_some h
      injection h2 with h2; subst h2
      simp only [Bool.and_eq_true, beq_iff_eq, Bool.not_eq_true'] at h1
      exact ⟨rfl, fun rest => ⟨by simp only [Sh.put, h1.1, cond_false, renV, h1.2.1, h1.2.2], rfl⟩⟩
    · obtain ⟨h1, h2⟩ := cond_some h
      injection h2 with h2; subst h2
      exact ⟨rfl, fun rest => ⟨by simp only [Sh.put, h1, cond_true, renV], rfl⟩⟩
    · cases h
  | .fn f cs, v, ds, h => by
    simp only [Sh.get] at h
    split at h
    · obtain ⟨h1, h2⟩ := cond_some h
      simp only [Bool.and_eq_true, beq_iff_eq, Bool.not_eq_true'] at h1
      obtain ⟨h3, h4⟩ := Shs.get_put cs _ ds h2
      refine ⟨h3, fun rest => ⟨?_, (h4 rest).2⟩⟩
      rw [← h1.1]
      exact mkFn_ren (h4 rest).1 h1.2
    · obtain ⟨h1, h2⟩ := cond_some h
      obtain ⟨h3, h4⟩ := Shs.get_put cs _ ds h2
      refine ⟨h3, fun rest => ⟨?_, (h4 rest).2⟩⟩
      rw [show f = _ by simpa using h1]
      exact mkFn_told (h4 rest).1
    · cases h
  | .ag cs, v, ds, h => by
    simp only [Sh.get] at h
    split at h
    · obtain ⟨h1, h2⟩ := cond_some h
      simp only [Bool.not_eq_true'] at h1
      obtain ⟨h3, h4⟩ := Shs.get_put cs _ ds h2
      exact ⟨h3, fun rest => ⟨mkAg_ren (h4 rest).1 h1, (h4 rest).2⟩⟩
    · obtain ⟨h3, h4⟩ := Shs.get_put cs _ ds h
      exact ⟨h3, fun rest => ⟨mkAg_told (h4 rest).1, (h4 rest).2⟩⟩
    · cases h
theorem Shs.get_put : ∀ (s : Shs) (vs : List V) (ds : List D), s.get l nl vs = some ds → ds.length = s.tys.length ∧ ∀ rest, vs = renVs (sig l) (s.put nl (ds ++ rest)).1 ∧ (s.put nl (ds ++ rest)).2 = rest
  | .nil, vs, ds, h => by
    simp only [Shs.get] at h
    split at h
    · injection h with h; subst h
      exact ⟨rfl, fun rest => ⟨rfl, rfl⟩⟩
    · cases h
  | .cons s r, vs, ds, h => by
    simp only [Shs.get] at h
    split at h
    · rename_i v vs
      split at h
      · rename_i d1 h1
        split at h
        · rename_i d2 h2
          injection h with h; subst h
          obtain ⟨g1, g2⟩ := Sh.get_put s v d1 h1
          obtain ⟨g3, g4⟩ := Shs.get_put r vs d2 h2
          refine ⟨by simp only [Shs.tys, List.length_append, g1, g3], fun rest => ?_⟩
          have e1 := g2 (d2 ++ rest)
          have e2 := g4 rest
          rw [List.append_assoc]
          simp only [Shs.put, renVs]
          rw [e1.2]
          exact ⟨by rw [← e1.1, ← e2.1], e2.2⟩
        · cases h
      · cases h
    · cases h
end
theorem getS_put {f : Slots} : ∀ (sl : List (Nat × Sh)) (ds : List D), getS l nl f sl = some ds → ds.length = (slTys sl).length ∧ ∀ rest, slotsW f (sig l) (putS nl sl (ds ++ rest)).1
  | [], ds, h => by
    simp only [getS, Option.some.injEq] at h
    subst h
    exact ⟨rfl, fun rest => trivial⟩
  | (k, s) :: r, ds, h => by
    simp only [getS] at h
    split at h
    · rename_i d1 h1
      split at h
      · rename_i d2 h2
        injection h with h; subst h
        obtain ⟨g1, g2⟩ := s.get_put _ d1 h1
        obtain ⟨g3, g4⟩ := getS_put r d2 h2
        refine ⟨by simp only [slTys, List.length_append, g1, g3], fun rest => ?_⟩
        have e1 := g2 (d2 ++ rest)
        rw [List.append_assoc]
        simp only [putS]
        rw [e1.2]
        exact ⟨e1.1, g4 rest⟩
      · cases h
    · cases h
theorem BSh.get_put {n : Bool} {σ : Nat → Nat} : ∀ (b : BSh) (x : Blk) (ds : List D), b.get l nl n x = some ds → (σ = sig l) → ds.length = b.tys.length ∧ ∀ rest, ((b.put nl (ds ++ rest)).1 ≠ .dead → x = renB σ (b.put nl (ds ++ rest)).1) ∧ (b.put nl (ds ++ rest)).2 = rest
  | .box cs, x, ds, h, hσ => by
    subst hσ
    simp only [BSh.get] at h
    split at h
    · cases n
      · simp only [cond_false] at h
        obtain ⟨g1, g2⟩ := cs.get_put _ ds h
        exact ⟨g1, fun rest => ⟨fun _ => by simp only [BSh.put, renB]; rw [← (g2 rest).1], (g2 rest).2⟩⟩
      · cases h
    · cases h
  | .arr T, x, ds, h, hσ => by
    simp only [BSh.get] at h
    split at h
    · cases n
      · simp only [cond_false, Option.some.injEq] at h
        subst h
        exact ⟨rfl, fun rest => ⟨fun _ => rfl, rfl⟩⟩
      · cases h
    · cases h
  | .arrN T, x, ds, h, hσ => by
    simp only [BSh.get] at h
    cases n
    · simp only [cond_false] at h
      split at h
      · rename_i w xs
        obtain ⟨h1, h⟩ := cond_none h
        injection h with h; subst h
        refine ⟨rfl, fun rest => ⟨fun hd => ?_, rfl⟩⟩
        simp only [BSh.put, List.cons_append, nilD, h1, cond_false, arrOf, renB]
      · cases h
    · simp only [cond_true, Option.some.injEq] at h
      subst h
      exact ⟨rfl, fun rest => ⟨fun hd => by simp [BSh.put, nilD, Ls.nil] at hd, rfl⟩⟩
  | .dead, x, ds, h, hσ => by
    simp only [BSh.get] at h
    cases n
    · simp only [cond_false, Option.some.injEq] at h
      subst h
      exact ⟨rfl, fun rest => ⟨fun hd => by simp [BSh.put] at hd, rfl⟩⟩
    · cases h
theorem getB_put {hp : Heap} : ∀ (bl : List BSh) (j : Nat) (ds : List D), getB l nl hp j bl = some ds → ds.length = (blTys bl).length ∧ ∀ rest, heapW hp (sig l) (putB nl j bl (ds ++ rest))
  | [], j, ds, h => by
    simp only [getB, Option.some.injEq] at h
    subst h
    exact ⟨rfl, fun rest => trivial⟩
  | b :: r, j, ds, h => by
    simp only [getB] at h
    split at h
    · rename_i d1 h1
      split at h
      · rename_i d2 h2
        injection h with h; subst h
        obtain ⟨g1, g2⟩ := b.get_put _ d1 h1 rfl
        obtain ⟨g3, g4⟩ := getB_put r (j + 1) d2 h2
        refine ⟨by simp only [blTys, List.length_append, g1, g3], fun rest => ?_⟩
        have e1 := g2 (d2 ++ rest)
        rw [List.append_assoc]
        simp only [putB]
        rw [e1.2]
        exact ⟨e1.1, g4 rest⟩
      · cases h
    · cases h
end

/-! ### cutting down -/
def frzSl : List (Nat × Sh) → St → (St → Option α) → Option α
  | [], st, K => K st
  | (k, .x T) :: r, st, K => frzK st.h (get st.f k) fun d hp => frzSl r ⟨(k, .d (coeT T d)) :: st.f, st.n, hp⟩ K
  | (_, _) :: r, st, K => frzSl r st K
def sameBs : List Bool → List Bool → Bool
  | [], [] => true
  | a :: l, b :: m => (bif a then b else !b) && sameBs l m
  | _, _ => false
theorem sameBs_eq : ∀ {a b : List Bool}, sameBs a b = true → a = b
  | [], [], _ => rfl
  | a :: l, b :: m, h => by
    simp only [sameBs, Bool.and_eq_true] at h
    rw [sameBs_eq h.2]
    cases a <;> cases b <;> first | rfl | cases h.1
  | [], _ :: _, h => by cases h
  | _ :: _, [], h => by cases h
def cutK (n0 : Nat) (s : SSh) (st : St) (K : List D → Option α) : Option α :=
  match getS (lOf n0 (bndS st s) s.bl.length) (nOf (bndS st s) s.bl.length) st.f s.sl with
  | some ds => match getB (lOf n0 (bndS st s) s.bl.length) (nOf (bndS st s) s.bl.length) st.h 0 s.bl with
    | some es => bif okW (s.st (ds ++ es)) && (okSig n0 s.bl.length (lOf n0 (bndS st s) s.bl.length) && sameBs (nbs s.bl es) (nOf (bndS st s) s.bl.length)) then K (ds ++ es) else none
    | none => none
  | none => none
def absK (n0 : Nat) (s : SSh) (st : St) (K : List D → Option α) : Option α := frzSl s.sl st fun st => cutK n0 s st K

/-- one state is another one's, with less known -/
def Less (n0 : Nat) (st st' : St) : Prop := n0 ≤ st.n → n0 ≤ st'.n ∧ ∀ (G : Nat → Option (List D)) (nt : Nat) (c : Cf) (a : Act), SR G nt c st a → ∃ c', Ext c n0 c' ∧ c'.w = c.w ∧ SR G nt c' st' a
theorem Less.refl (n0 : Nat) (st : St) : Less n0 st st := fun h => ⟨h, fun G nt c a hr => ⟨c, .refl c n0, rfl, hr⟩⟩
theorem Less.trans {n0 : Nat} {a b c : St} (h : Less n0 a b) (k : Less n0 b c) : Less n0 a c := fun hn => by
  obtain ⟨h1, h2⟩ := h hn
  obtain ⟨k1, k2⟩ := k h1
  refine ⟨k1, fun G nt cf act hr => ?_⟩
  obtain ⟨c1, e1, w1, r1⟩ := h2 G nt cf act hr
  obtain ⟨c2, e2, w2, r2⟩ := k2 G nt c1 act r1
  exact ⟨c2, e1.trans e2 (Nat.le_refl _), w2.trans w1, r2⟩
theorem frz_less {n0 : Nat} {st : St} {k : Nat} {T : Ty} {d : D} {hp : Heap} (h : frz st.h (get st.f k) = some (d, hp)) : Less n0 st ⟨(k, .d (coeT T d)) :: st.f, st.n, hp⟩ := by
  intro hn
  refine ⟨hn, fun G nt c a hr => ?_⟩
  obtain ⟨c', hF, hd⟩ := frz_sound _ c st.h hp d _ h hr.h (hr.s.get k)
  refine ⟨c', hF.ext.weaken hn, hF.w, (hF.ext.G).trans hr.g, ⟨(hr.s.mono hF.ext (Nat.le_refl _)).glob, fun t => ?_⟩, hF.heap, hr.size, hr.defers⟩
  rw [get_cons]
  by_cases ht : k = t
  · subst ht; rw [if_pos rfl]; exact .d _ _ (coeT_rel hd)
  · rw [if_neg ht]; exact (hr.s.get t).mono hF.ext (Nat.le_refl _)
theorem frzSl_sound {n0 : Nat} : ∀ {sl : List (Nat × Sh)} {st : St} {K : St → Option α}, frzSl sl st K = some r → ∃ st', Less n0 st st' ∧ K st' = some r
  | [], st, K, h => ⟨st, .refl n0 st, h⟩
  | (k, s) :: r', st, K, h => by
    cases s with
    | x T =>
      simp only [frzSl] at h
      obtain ⟨d, hp, h1, h2⟩ := frzK_sound h
      obtain ⟨st', h3, h4⟩ := frzSl_sound h2
      exact ⟨st', (frz_less h1).trans h3, h4⟩
    | _ => exact frzSl_sound (sl := r') h
theorem Weak.less {n0 : Nat} {l : List Nat} {st st' : St} (hw : Weak n0 l st st') : Less n0 st st' := by
  intro hn
  have hsg := hw.sg
  simp only [okSig, Bool.and_eq_true] at hsg
  refine ⟨Nat.le_of_ble_eq_true hsg.1.1, fun G nt c a hr => ?_⟩
  obtain ⟨c', h1, h2, h3, h4⟩ := hw.use hr
  exact ⟨c', h1, h2, h4⟩
theorem cutK_sound {n0 : Nat} {s : SSh} {st : St} {K : List D → Option α} (h : cutK n0 s st K = some r) : ∃ ds, Less n0 st (s.st ds) ∧ K ds = some r := by
  unfold cutK at h
  split at h
  · rename_i ds hs
    split at h
    · rename_i es hb
      obtain ⟨hc, h⟩ := cond_some h
      simp only [Bool.and_eq_true] at hc
      obtain ⟨h1, h2, h3⟩ := hc
      have h3 := sameBs_eq h3
      refine ⟨ds ++ es, Weak.less (l := lOf n0 (bndS st s) s.bl.length) ⟨?_, ?_, h1, h2⟩, h⟩
      · obtain ⟨g1, g2⟩ := getS_put s.sl ds hs
        have := g2 es
        simp only [SSh.st, ← g1, List.drop_left, h3]
        exact this
      · obtain ⟨g1, _⟩ := getS_put s.sl ds hs
        obtain ⟨g3, g4⟩ := getB_put s.bl 0 es hb
        have := g4 []
        rw [List.append_nil] at this
        simp only [SSh.st, ← g1, List.drop_left, h3]
        exact this
    · cases h
  · cases h
theorem absK_sound {n0 : Nat} {s : SSh} {st : St} {K : List D → Option α} (h : absK n0 s st K = some r) : ∃ ds, Less n0 st (s.st ds) ∧ K ds = some r := by
  unfold absK at h
  obtain ⟨st', h1, h2⟩ := frzSl_sound (n0 := n0) h
  obtain ⟨ds, h3, h4⟩ := cutK_sound h2
  exact ⟨ds, h1.trans h3, h4⟩
end Go.Fw
end
section
/- Places and functions, told by shapes. By this session. -/
set_option linter.unusedVariables false
set_option linter.unusedSimpArgs false
namespace Go.Fw
variable {P : Program} {α : Type} {r : α}

/-! ### what comes of a place -/
abbrev PEnds := List (X × SSh)
@[reducible] def OutV : PEnds → Type
  | [] => Empty
  | o :: os => match os with
    | [] => Vals o.2.tys
    | _ :: _ => Vals o.2.tys ⊕ OutV os
/-- a list that may be nothing is looked into -/
def split1 : (t : Ty) → Bool → t.den → (t.den → Option α) → Option α
  | .l e, true => fun (x : List e.den) K => match x with
    | [] => K ([] : List e.den)
    | a :: l => K (a :: l : List e.den)
  | _, _ => fun x K => K x
def splitV : (ts : List Ty) → List Bool → Vals ts → (Vals ts → Option α) → Option α
  | [], _, v, K => K v
  | [t], ns, v, K => split1 t (ns.getD 0 false) v K
  | t :: t' :: ts, ns, v, K => split1 t (ns.getD 0 false) v.1 fun x => splitV (t' :: ts) (ns.drop 1) v.2 fun y => K (x, y)
theorem split1_is : ∀ {t : Ty} {n : Bool} {v : t.den} {K : t.den → Option α}, split1 t n v K = K v
  | .l e, true, v, K => by
    simp only [split1]
    cases (v : List e.den) <;> rfl
  | .l e, false, v, K => rfl
  | .b, n, v, K => by cases n <;> rfl
  | .s, n, v, K => by cases n <;> rfl
  | .u, n, v, K => by cases n <;> rfl
  | .i _, n, v, K => by cases n <;> rfl
  | .p _ _, n, v, K => by cases n <;> rfl
  | .g _, n, v, K => by cases n <;> rfl
theorem splitV_is : ∀ {ts : List Ty} {ns : List Bool} {v : Vals ts} {K : Vals ts → Option α}, splitV ts ns v K = K v
  | [], _, v, K => rfl
  | [t], ns, v, K => split1_is
  | t :: t' :: ts, ns, v, K => by
    show split1 t _ v.1 _ = _
    rw [split1_is]
    exact splitV_is (ts := t' :: ts)
def nilHoles (s : SSh) : List Bool := (slTys s.sl).map (fun _ => false) ++ s.bl.flatMap fun b => match b with
  | .arrN _ => [true]
  | b => b.tys.map fun _ => false
def outGo : (os : PEnds) → OutV os → (X → St → Option α) → Option α
  | [], r, K => r.elim
  | [o], v, K => splitV o.2.tys (nilHoles o.2) v fun v => K o.1 (o.2.st (elts o.2.tys v))
  | o :: o' :: os, v, K => match v with
    | .inl v => splitV o.2.tys (nilHoles o.2) v fun v => K o.1 (o.2.st (elts o.2.tys v))
    | .inr v => outGo (o' :: os) v K
/-- where it leads, and to which state -/
def outIs : (os : PEnds) → OutV os → X × St
  | [], r => r.elim
  | [o], v => (o.1, o.2.st (elts o.2.tys v))
  | o :: o' :: os, v => match v with
    | .inl v => (o.1, o.2.st (elts o.2.tys v))
    | .inr v => outIs (o' :: os) v
theorem outGo_is : ∀ {os : PEnds} {v : OutV os} {K : X → St → Option α}, outGo os v K = K (outIs os v).1 (outIs os v).2
  | [], v, K => v.elim
  | [o], v, K => splitV_is (ts := o.2.tys) (K := fun v => K o.1 (o.2.st (elts o.2.tys v)))
  | o :: o' :: os, v, K => by
    cases v with
    | inl v => exact splitV_is (ts := o.2.tys) (K := fun v => K o.1 (o.2.st (elts o.2.tys v)))
    | inr v => exact outGo_is (os := o' :: os) (v := v)
def xIs : X → X → Bool
  | .n, .n => true
  | .ret, .ret => true
  | .exit a, .exit b => a == b
  | _, _ => false
theorem xIs_eq {a b : X} (h : xIs a b = true) : a = b := by
  cases a <;> cases b <;> simp only [xIs] at h <;> first | rfl | (cases h; done) | skip
  rename_i i j
  rw [show i = j from by simpa using h]
def outGet (n0 : Nat) : (os : PEnds) → X → St → (OutV os → Option α) → Option α
  | [], _, _, _ => none
  | [o], x, st, K => bif xIs x o.1 then absK n0 o.2 st fun ds => (match decAll o.2.tys ds with
    | some v => K v
    | none => none) else none
  | o :: o' :: os, x, st, K => bif xIs x o.1 then absK n0 o.2 st fun ds => (match decAll o.2.tys ds with
    | some v => K (.inl v)
    | none => none) else outGet n0 (o' :: os) x st fun v => K (.inr v)
theorem outGet_sound {n0 : Nat} : ∀ {os : PEnds} {x : X} {st : St} {K : OutV os → Option α}, outGet n0 os x st K = some r → ∃ v, x = (outIs os v).1 ∧ Less n0 st (outIs os v).2 ∧ K v = some r
  | [], x, st, K, h => by cases h
  | [o], x, st, K, h => by
    simp only [outGet] at h
    obtain ⟨h1, h2⟩ := cond_some h
    obtain ⟨ds, h3, h4⟩ := absK_sound h2
    split at h4
    · rename_i v hv
      refine ⟨v, xIs_eq h1, ?_, h4⟩
      show Less n0 st (o.2.st (elts o.2.tys v))
      rw [decAll_elts hv]; exact h3
    · cases h4
  | o :: o' :: os, x, st, K, h => by
    simp only [outGet] at h
    cases hx : xIs x o.1 <;> rw [hx] at h
    · obtain ⟨v, h1, h2, h3⟩ := outGet_sound (os := o' :: os) h
      exact ⟨.inr v, h1, h2, h3⟩
    · obtain ⟨ds, h3, h4⟩ := absK_sound h
      split at h4
      · rename_i v hv
        refine ⟨.inl v, xIs_eq hx, ?_, h4⟩
        show Less n0 st (o.2.st (elts o.2.tys v))
        rw [decAll_elts hv]; exact h3
      · cases h4

/-! ### places -/
structure NodeT where
  sh : SSh
  os : PEnds
  f : Vals sh.tys → Option (OutV os)
def NodeT.summ (T : NodeT) (n0 : Nat) : Summ := fun st _ K => absK n0 T.sh st fun ds => match decAll T.sh.tys ds with
  | some s => (T.f s).bind fun r => outGo T.os r K
  | none => none
section
variable {G : Nat → Option (List D)} {nt n0 : Nat}
theorem CodeN.less {code : Code} {st st1 : St} {q : X × St} (hw : Less n0 st st1) (hl : CodeN P G nt n0 code st1 q) : CodeN P G nt n0 code st q := by
  intro h0 c a Q hr hQ
  obtain ⟨hn, hu⟩ := hw h0
  obtain ⟨c', hx, hw', hr'⟩ := hu _ _ _ _ hr
  have := hl hn c' a Q hr' fun a2 c2 hx2 hn2 hr2 => hQ a2 c2 (hx.trans hx2 (Nat.le_refl _)) hn2 hr2
  rw [hw'] at this
  exact this
theorem CodeN.less_out {code : Code} {st st1 st2 : St} {x : X} (hl : CodeN P G nt n0 code st (x, st1)) (hw : Less n0 st1 st2) : CodeN P G nt n0 code st (x, st2) := by
  intro h0 c a Q hr hQ
  refine hl h0 c a Q hr fun a1 c1 hx1 hn1 hr1 => ?_
  obtain ⟨hn, hu⟩ := hw hn1
  obtain ⟨c', hx, hw', hr'⟩ := hu _ _ _ _ hr1
  have := hQ a1 c' (hx1.trans hx (Nat.le_refl _)) hn hr'
  rw [hw'] at this
  exact this
theorem node_told' {g : FuncId} {k : Nat} (T : NodeT) (h : ∀ s r, T.f s = some r → CodeN P G (ntOf P g) n0 (nodeOf P g k) (T.sh.st (elts T.sh.tys s)) (outIs T.os r)) : ToldOK P G n0 g k (.yes (T.summ n0)) := by
  refine told_yes fun st α K r hr => ?_
  unfold NodeT.summ at hr
  obtain ⟨ds, h1, hr⟩ := absK_sound hr
  split at hr
  · rename_i s hs
    obtain ⟨r', hf, hr⟩ := Option.bind_eq_some_iff.1 hr
    rw [outGo_is] at hr
    have := h s r' hf
    rw [decAll_elts hs] at this
    exact ⟨_, _, CodeN.less h1 this, hr⟩
  · cases hr
/-- a piece of code, from a shape on to its ends -/
def nodeK (P : Program) (H : HK) (L : Loops) (c : Code) (n0 : Nat) (sh : SSh) (os : PEnds) (s : Vals sh.tys) (K : OutV os → Option α) : Option α :=
  evK P H L c 0 (sh.st (elts sh.tys s)) fun x st => outGet n0 os x st K
/-- one round -/
def turnK (P : Program) (H : HK) (L : Loops) (c : Code) (n0 : Nat) (sh : SSh) (os : PEnds) (s : Vals sh.tys) (K : Vals sh.tys ⊕ OutV os → Option α) : Option α :=
  evK P H L c 0 (sh.st (elts sh.tys s)) fun x st => match x with
    | .n => absK n0 sh st fun ds => match decAll sh.tys ds with
      | some s' => K (.inl s')
      | none => none
    | x => outGet n0 os x st fun v => K (.inr v)
def turnEnd (sh : SSh) (os : PEnds) (y : Vals sh.tys ⊕ OutV os) : X × St := match y with
  | .inl s' => (.n, sh.st (elts sh.tys s'))
  | .inr v => outIs os v
theorem nodeK_sound {H : HK} (hok : HKOK P H) {L : Loops} {c : Code} {sh : SSh} {os : PEnds} (hc : okCode nt c = true) (hL : LoopsSem P H.G nt n0 L c 0) {s : Vals sh.tys} {y : OutV os} (h : nodeK P H L c n0 sh os s some = some y) :
    CodeN P H.G nt n0 c (sh.st (elts sh.tys s)) (outIs os y) := by
  unfold nodeK at h
  obtain ⟨x, st', h1, h2⟩ := evK_sound hok c 0 _ _ hc hL h
  obtain ⟨v, rfl, h3, h4⟩ := outGet_sound h2
  injection h4 with h4
  subst h4
  exact h1.less_out h3
theorem turnK_sound {H : HK} (hok : HKOK P H) {L : Loops} {c : Code} {sh : SSh} {os : PEnds} (hc : okCode nt c = true) (hL : LoopsSem P H.G nt n0 L c 0) {s : Vals sh.tys} {y : Vals sh.tys ⊕ OutV os} (h : turnK P H L c n0 sh os s some = some y) :
    CodeN P H.G nt n0 c (sh.st (elts sh.tys s)) (turnEnd sh os y) := by
  unfold turnK at h
  obtain ⟨x, st', h1, h2⟩ := evK_sound hok c 0 _ _ hc hL h
  cases x with
  | n =>
    obtain ⟨ds, h3, h4⟩ := absK_sound h2
    split at h4
    · rename_i s' hs
      injection h4 with h4
      subst h4
      rw [← decAll_elts hs] at h3
      exact h1.less_out h3
    · cases h4
  | ret =>
    obtain ⟨v, hv, h3, h4⟩ := outGet_sound h2
    injection h4 with h4
    subst h4
    have := h1.less_out h3
    rw [hv] at this
    exact this
  | exit j =>
    obtain ⟨v, hv, h3, h4⟩ := outGet_sound h2
    injection h4 with h4
    subst h4
    have := h1.less_out h3
    rw [hv] at this
    exact this
/-- an end that is none of a round's -/
def okEnds (os : PEnds) : Bool := os.all fun o => !xIs o.1 .n
theorem okEnds_is : ∀ {os : PEnds}, okEnds os = true → ∀ v : OutV os, (outIs os v).1 ≠ .n
  | [], _, v => v.elim
  | [o], h, v => by
    simp only [okEnds, List.all_cons, Bool.and_eq_true, Bool.not_eq_true'] at h
    intro e
    have : o.1 = .n := e
    rw [this] at h
    cases h.1
  | o :: o' :: os, h, v => by
    have h0 := h
    simp only [okEnds, List.all_cons, Bool.and_eq_true, Bool.not_eq_true'] at h
    cases v with
    | inl v =>
      intro e
      have : o.1 = .n := e
      rw [this] at h
      cases h.1
    | inr v => exact okEnds_is (os := o' :: os) (by simp only [okEnds, List.all_cons, Bool.and_eq_true, Bool.not_eq_true']; exact h.2) v
/-- a loop is told -/
theorem loop_told' {H : HK} (hok : HKOK P H) {L : Loops} {g : FuncId} {k : Nat} {body : Code} (hn : nodeOf P g k = .loop body) (hc : okCode (ntOf P g) body = true) (hL : LoopsSem P H.G (ntOf P g) n0 L body 0) (sh : SSh) (os : PEnds) (ho : okEnds os = true)
    (t : Vals sh.tys → Option (Vals sh.tys ⊕ OutV os)) (h : ∀ s, turnK P H L body n0 sh os s some = t s) : ToldOK P H.G n0 g k (.yes (NodeT.summ ⟨sh, os, rounds t⟩ n0)) := by
  refine node_told' _ fun s r hr => ?_
  obtain ⟨n, hn'⟩ := rounds_some.1 hr
  rw [hn]
  have key : ∀ s y, t s = some y → CodeN P H.G (ntOf P g) n0 body (sh.st (elts sh.tys s)) (turnEnd sh os y) := fun s y hy => turnK_sound hok hc hL (by rw [h]; exact hy)
  exact (loopN_turns (e := fun s => sh.st (elts sh.tys s)) (x := outIs os) (okEnds_is ho) (fun s s' hs => key s _ hs) (fun s r hs => key s _ hs) n s r hn').code
/-- another place is told -/
theorem place_told {H : HK} (hok : HKOK P H) {L : Loops} {g : FuncId} {k : Nat} {c : Code} (hn : nodeOf P g k = c) (hc : okCode (ntOf P g) c = true) (hL : LoopsSem P H.G (ntOf P g) n0 L c 0) (sh : SSh) (os : PEnds)
    (f : Vals sh.tys → Option (OutV os)) (h : ∀ s, nodeK P H L c n0 sh os s some = f s) : ToldOK P H.G n0 g k (.yes (NodeT.summ ⟨sh, os, f⟩ n0)) := by
  refine node_told' _ fun s r hr => ?_
  rw [hn]
  exact nodeK_sound hok hc hL (by rw [h]; exact hr)
end

/-! ### functions -/
/-- what a function hands back, part by part: its own, or not, and of which type -/
abbrev Back := List (Bool × Ty)
def Back.tys (m : Back) : List Ty := m.map (·.2)
def freshD (t : Ty) (xs : Ls) : D := .fr t.w xs
def encR1 : Bool × Ty → D → D
  | (true, .l t), .sl _ xs => .fr t.w xs
  | _, d => d
def encRs : Back → List D → List D
  | m :: ms, d :: ds => encR1 m d :: encRs ms ds
  | _, _ => []
def tupD : List D → D
  | [d] => d
  | ds => .tp ds
/-- of what it hands back, data -/
def encR (m : Back) (x : Vals m.tys) : D := tupD (encRs m (elts m.tys x))
/-- which ones are frozen: all but its own -/
def frzSel : Back → List V → Heap → (List V → Heap → Option α) → Option α
  | [], [], hp, K => K [] hp
  | (false, T) :: m, v :: vs, hp, K => frzK hp v fun d hp' => frzSel m vs hp' fun vs' hp'' => K (.d (coeT T d) :: vs') hp''
  | (true, _) :: m, v :: vs, hp, K => frzSel m vs hp fun vs' hp'' => K (v :: vs') hp''
  | _, _, _, _ => none
def decR1 : Bool × Ty → D → Option D
  | (true, .l t), .fr w xs => bif w == t.w then some (.sl t.w xs) else none
  | (false, _), d => some d
  | _, _ => none
def decRs : Back → List D → Option (List D)
  | [], [] => some []
  | m :: ms, d :: ds => match decR1 m d with
    | some e => match decRs ms ds with
      | some es => some (e :: es)
      | none => none
    | none => none
  | _, _ => none
def partsV : V → List V
  | .tp vs => vs
  | .d (.tp ds) => ds.map .d
  | v => [v]
def oneRes : Back → Bool
  | [_] => true
  | _ => false
def expR (m : Back) (v : V) (hp : Heap) (K : Vals m.tys → Option α) : Option α :=
  frzSel m (bif oneRes m then [v] else partsV v) hp fun vs hp' => outsK vs hp' fun ds _ => match decRs m ds with
    | some es => match decAll m.tys es with
      | some x => K x
      | none => none
    | none => none
/-- arguments -/
def argV (As : Shs) (x : Vals As.tys) : List V := (As.put [] (elts As.tys x)).1
def argD (As : Shs) (x : Vals As.tys) : List D := match allD (argV As x) with
  | some ds => ds
  | none => []
def fnK (P : Program) (H : HK) (L : Loops) (g : FuncId) (As : Shs) (m : Back) (x : Vals As.tys) (K : Vals m.tys → Option α) : Option α :=
  bodyK P H L g (argV As x) 0 [] fun v _ hp => expR m v hp K
def coeA : Shs → List D → List D
  | .cons s r, d :: ds => (match s with
    | .x T => coeT T d
    | _ => d) :: coeA r ds
  | _, ds => ds
def decArgs (As : Shs) (ds : List D) : Option (Vals As.tys) := match As.get [] [] ((coeA As ds).map .d) with
  | some hs => decAll As.tys hs
  | none => none
def fnRow (g : FuncId) (As : Shs) (m : Back) (F : Vals As.tys → Option (Vals m.tys)) : Row := ⟨g, Vals As.tys, Vals m.tys, decArgs As, F, encR m⟩

theorem coeA_rel {w : World} {I : Mem} : ∀ {As : Shs} {ds : List D} {f : Nat → Value}, (∀ (j : Nat) (d : D), ds[j]? = some d → RelD w I d (f j)) → ∀ (j : Nat) (d : D), (coeA As ds)[j]? = some d → RelD w I d (f j)
  | .nil, ds, f, h, j, d, hj => by simp only [coeA] at hj; exact h j d hj
  | .cons s r, [], f, h, j, d, hj => by simp [coeA] at hj
  | .cons s r, d0 :: ds, f, h, j, d, hj => by
    simp only [coeA] at hj
    cases j with
    | zero =>
      simp only [List.getElem?_cons_zero, Option.some.injEq] at hj
      subst hj
      split
      · exact coeT_rel (h 0 d0 rfl)
      · exact h 0 d0 rfl
    | succ j => exact coeA_rel (f := fun j => f (j + 1)) (fun j d hj => h (j + 1) d (by simpa using hj)) j d (by simpa using hj)
theorem coeA_len : ∀ {As : Shs} {ds : List D}, (coeA As ds).length = ds.length
  | .nil, ds => rfl
  | .cons s r, [] => rfl
  | .cons s r, d0 :: ds => by simp only [coeA, List.length_cons, coeA_len]
theorem decArgs_argD {As : Shs} {ds : List D} {x : Vals As.tys} (h : decArgs As ds = some x) : argD As x = coeA As ds := by
  unfold decArgs at h
  split at h
  · rename_i hs hg
    have := decAll_elts h
    obtain ⟨_, h2⟩ := As.get_put _ _ hg
    have h3 := (h2 []).1
    rw [List.append_nil] at h3
    have h4 := rens_allD h3.symm
    unfold argD argV
    rw [this, h4, allD_map]
  · cases h
theorem PCall.coe {G : Nat → Option (List D)} {g : FuncId} {ds ds' : List D} {q : D} (h : PCall P G g ds' q) (hl : ds'.length = ds.length) (hr : ∀ (w : World) (I : Mem) (f : Nat → Value), (∀ (j : Nat) (d : D), ds[j]? = some d → RelD w I d (f j)) → ∀ (j : Nat) (d : D), ds'[j]? = some d → RelD w I d (f j)) : PCall P G g ds q := by
  intro w I K vs hg hI hK hd hsz hargs
  exact h w I K vs hg hI hK hd (by rw [hl]; exact hsz) (hr w I _ hargs)

/-! what it hands back is so -/
theorem frzSel_sound {n : Nat} : ∀ {m : Back} {vs : List V} {hp : Heap} {K : List V → Heap → Option α}, frzSel m vs hp K = some r → ∃ vs' hp', K vs' hp' = some r ∧ vs'.length = vs.length ∧ ∀ (c : Cf) (us : List Value), RelH c n hp → RelL c n vs us → ∃ c', Frz c n hp hp' c' ∧ RelL c' n vs' us
  | [], [], hp, K, h => ⟨[], hp, h, rfl, fun c us hH hL => ⟨c, .refl hH, hL⟩⟩
  | (b, T) :: m, v :: vs, hp, K, h => by
    cases b with
    | false =>
      simp only [frzSel] at h
      obtain ⟨d, hp', h1, h2⟩ := frzK_sound h
      obtain ⟨vs', hp'', h3, h4, h5⟩ := frzSel_sound (n := n) h2
      refine ⟨_, hp'', h3, by simp [h4], fun c us hH hL => ?_⟩
      cases us with
      | nil => have := hL.1; simp at this
      | cons u us =>
        obtain ⟨u', hu, hru⟩ := hL.2 0 v rfl
        simp only [List.getElem?_cons_zero, Option.some.injEq] at hu
        subst hu
        obtain ⟨c1, hF1, hd⟩ := frz_sound v c hp hp' d u h1 hH hru
        obtain ⟨c2, hF2, hL2⟩ := h5 c1 us hF1.heap ⟨by simpa using hL.1, fun j x hj => by
          obtain ⟨y, hy, hry⟩ := hL.2 (j + 1) x (by simpa using hj)
          exact ⟨y, by simpa using hy, hry.mono hF1.ext (Nat.le_refl n)⟩⟩
        refine ⟨c2, hF1.trans hF2, by simpa using hL2.1, fun j x hj => ?_⟩
        cases j with
        | zero =>
          simp only [List.getElem?_cons_zero, Option.some.injEq] at hj
          subst hj
          exact ⟨u, rfl, .d _ _ ((coeT_rel hd).mono hF2.ext.kept)⟩
        | succ j => simpa using hL2.2 j x (by simpa using hj)
    | true =>
      simp only [frzSel] at h
      obtain ⟨vs', hp'', h3, h4, h5⟩ := frzSel_sound (n := n) h
      refine ⟨_, hp'', h3, by simp [h4], fun c us hH hL => ?_⟩
      cases us with
      | nil => have := hL.1; simp at this
      | cons u us =>
        obtain ⟨u', hu, hru⟩ := hL.2 0 v rfl
        simp only [List.getElem?_cons_zero, Option.some.injEq] at hu
        subst hu
        obtain ⟨c2, hF2, hL2⟩ := h5 c us hH ⟨by simpa using hL.1, fun j x hj => by
          obtain ⟨y, hy, hry⟩ := hL.2 (j + 1) x (by simpa using hj)
          exact ⟨y, by simpa using hy, hry⟩⟩
        refine ⟨c2, hF2, by simpa using hL2.1, fun j x hj => ?_⟩
        cases j with
        | zero =>
          simp only [List.getElem?_cons_zero, Option.some.injEq] at hj
          subst hj
          exact ⟨u, rfl, hru.mono hF2.ext (Nat.le_refl n)⟩
        | succ j => simpa using hL2.2 j x (by simpa using hj)
  | [], _ :: _, hp, K, h => by simp [frzSel] at h
  | (false, _) :: _, [], hp, K, h => by simp [frzSel] at h
  | (true, _) :: _, [], hp, K, h => by simp [frzSel] at h
theorem decRs_enc : ∀ {m : Back} {ds es : List D}, decRs m ds = some es → encRs m es = ds
  | [], [], es, h => by simp only [decRs, Option.some.injEq] at h; subst h; rfl
  | a :: m, d :: ds, es, h => by
    simp only [decRs] at h
    split at h
    · rename_i e h1
      split at h
      · rename_i es' h2
        injection h with h
        subst h
        simp only [encRs, decRs_enc h2]
        congr 1
        unfold decR1 at h1
        split at h1
        · rename_i t w xs
          obtain ⟨h3, h4⟩ := cond_some h1
          injection h4 with h4
          subst h4
          simp only [encR1]
          rw [show w = t.w by simpa using h3]
        · injection h1 with h1; subst h1; rfl
        · cases h1
      · cases h
    · cases h
  | [], _ :: _, _, h => by cases h
  | _ :: _, [], _, h => by cases h
theorem partsV_rel {c : Cf} {n : Nat} {v : V} {u : Value} (h : RelV c n v u) (hv : (∃ vs, v = .tp vs) ∨ ∃ ds, v = .d (.tp ds)) : ∃ us : Array Value, u = .tuple us ∧ RelL c n (partsV v) us.toList := by
  rcases hv with ⟨vs, rfl⟩ | ⟨ds, rfl⟩
  · cases h with
    | tp _ us hl hh =>
      refine ⟨us, rfl, by simpa [partsV] using hl, fun j x hj => ?_⟩
      have hlt := (List.getElem?_eq_some_iff.1 hj).1
      refine ⟨us.getD j undef, ?_, hh j x hj⟩
      simp only [partsV] at hlt
      rw [Array.getElem?_toList, Array.getD_eq_getD_getElem?, Array.getElem?_eq_getElem (by omega)]; rfl
  · have := h.inv_d
    cases this with
    | tp _ us hl hh =>
      refine ⟨us, rfl, by simpa [partsV] using hl, fun j x hj => ?_⟩
      simp only [partsV, List.getElem?_map] at hj
      obtain ⟨d, hd, rfl⟩ := Option.map_eq_some_iff.1 hj
      have hlt := (List.getElem?_eq_some_iff.1 hd).1
      refine ⟨us.getD j undef, ?_, .d _ _ (hh j d hd)⟩
      rw [Array.getElem?_toList, Array.getD_eq_getD_getElem?, Array.getElem?_eq_getElem (by omega)]; rfl
theorem parts_not {v : V} (h1 : ∀ vs, v ≠ .tp vs) (h2 : ∀ ds, v ≠ .d (.tp ds)) : partsV v = [v] := by
  unfold partsV
  split
  · exact absurd rfl (h1 _)
  · exact absurd rfl (h2 _)
  · rfl
theorem frzSel_len : ∀ {m : Back} {vs : List V} {hp : Heap} {K : List V → Heap → Option α}, frzSel m vs hp K = some r → vs.length = m.length
  | [], [], hp, K, h => rfl
  | (false, T) :: m, v :: vs, hp, K, h => by
    simp only [frzSel] at h
    obtain ⟨d, hp', h1, h2⟩ := frzK_sound h
    simp only [List.length_cons, frzSel_len h2]
  | (true, T) :: m, v :: vs, hp, K, h => by
    simp only [frzSel] at h
    simp only [List.length_cons, frzSel_len h]
  | [], _ :: _, hp, K, h => by simp [frzSel] at h
  | (false, _) :: _, [], hp, K, h => by simp [frzSel] at h
  | (true, _) :: _, [], hp, K, h => by simp [frzSel] at h
theorem expR_sound {n : Nat} {m : Back} {v : V} {hp : Heap} {x : Vals m.tys} (h : expR m v hp some = some x) : ∃ v2 hp2, expD hp2 v2 = some (encR m x) ∧ ∀ (c : Cf) (u : Value), RelH c n hp → RelV c n v u → ∃ c', Frz c n hp hp2 c' ∧ RelV c' n v2 u := by
  unfold expR at h
  have hlen := frzSel_len h
  obtain ⟨vs', hp2, h1, h2, h3⟩ := frzSel_sound (n := n) h
  obtain ⟨ds, hp3, h4, h5⟩ := outsK_sound h1
  have henc : encR m x = tupD ds := by
    split at h5
    · rename_i es he
      split at h5
      · rename_i y hy
        injection h5 with h5
        subst h5
        unfold encR
        rw [decAll_elts hy, decRs_enc he]
      · cases h5
    · cases h5
  cases hm : oneRes m
  · -- several
    rw [hm] at hlen h2 h3
    simp only [cond_false] at hlen h2 h3
    have hml : m.length ≠ 1 := by
      intro e
      match m, e with
      | [_], _ => cases hm
    have hv : (∃ vs, v = .tp vs) ∨ ∃ ds, v = .d (.tp ds) := by
      apply Classical.byContradiction
      intro hn
      have h1 : ∀ vs, v ≠ .tp vs := fun vs e => hn (.inl ⟨vs, e⟩)
      have h2 : ∀ ds, v ≠ .d (.tp ds) := fun ds e => hn (.inr ⟨ds, e⟩)
      rw [parts_not h1 h2] at hlen
      exact hml hlen.symm
    have hdl : ds.length = vs'.length := expTops_len h4
    refine ⟨.tp vs', hp2, ?_, fun c u hH hr => ?_⟩
    · simp only [expD, h4, Option.map_some, henc]
      have : tupD ds = .tp ds := by
        unfold tupD
        split
        · rename_i d
          have : vs'.length = 1 := hdl.symm
          omega
        · rfl
      rw [this]
    · obtain ⟨us, rfl, hL⟩ := partsV_rel hr hv
      obtain ⟨c', hF, hL'⟩ := h3 c us.toList hH hL
      refine ⟨c', hF, .tp _ _ (by simpa using hL'.1) fun j x hj => ?_⟩
      obtain ⟨w, hw, hrw⟩ := hL'.2 j x hj
      rw [Array.getElem?_toList] at hw
      rw [Array.getD_eq_getD_getElem?, hw]
      exact hrw
  · -- one
    rw [hm] at hlen h2 h3
    simp only [cond_true, List.length_cons, List.length_nil] at hlen h2 h3
    match vs', h2 with
    | [v2], _ =>
    refine ⟨v2, hp2, ?_, fun c u hH hr => ?_⟩
    · simp only [expTops] at h4
      split at h4
      · rename_i d hp' he
        simp only [Option.some.injEq, Prod.mk.injEq] at h4
        obtain ⟨rfl, rfl⟩ := h4
        rw [henc]
        show expD hp2 v2 = some d
        unfold expD
        split
        · rename_i vs
          simp [expTop, frz] at he
        · rw [he]; rfl
      · cases h4
    · obtain ⟨c', hF, hL'⟩ := h3 c [u] hH ⟨rfl, fun j x hj => by
        cases j with
        | zero => simp only [List.getElem?_cons_zero, Option.some.injEq] at hj; subst hj; exact ⟨u, rfl, hr⟩
        | succ j => simp at hj⟩
      obtain ⟨w, hw, hrw⟩ := hL'.2 0 v2 rfl
      simp only [List.getElem?_cons_zero, Option.some.injEq] at hw
      subst hw
      exact ⟨c', hF, hrw⟩
where
  expTops_len : ∀ {vs : List V} {hp hp' : Heap} {ds : List D}, expTops hp vs = some (ds, hp') → ds.length = vs.length
    | [], hp, hp', ds, h => by
      simp only [expTops, Option.some.injEq, Prod.mk.injEq] at h
      rw [← h.1]; rfl
    | v :: vs, hp, hp', ds, h => by
      simp only [expTops] at h
      split at h
      · split at h
        · rename_i h2
          simp only [Option.some.injEq, Prod.mk.injEq] at h
          rw [← h.1, List.length_cons, List.length_cons, expTops_len h2]
        · cases h
      · cases h
theorem argV_argD {As : Shs} {x : Vals As.tys} (h : (allD (argV As x)).isSome = true) : argV As x = (argD As x).map .d := by
  unfold argD
  cases hd : allD (argV As x) with
  | none => rw [hd] at h; cases h
  | some ds => exact allD_spec _ _ hd
/-- a function is told -/
theorem fnK_sound {H : HK} (hok : HKOK P H) {L : Loops} {g : FuncId} (hL : LoopsOf P H.G 0 L g) {As : Shs} {m : Back} {a : Vals As.tys} (hd : (allD (argV As a)).isSome = true) {x : Vals m.tys} (h : fnK P H L g As m a some = some x) : Enters P g ∧ PCall P H.G g (argD As a) (encR m x) := by
  unfold fnK at h
  obtain ⟨v, n', hp', h1, h2, h3⟩ := bodyK_sound hok hL h
  obtain ⟨v2, hp2, h4, h5⟩ := expR_sound (n := n') h3
  refine ⟨h1, pcall_of (v := v2) (n := n') (hp := hp2) ?_ h4⟩
  rw [argV_argD hd] at h2
  intro c vs hG hg hH hRL
  refine (h2 c vs hG hg hH hRL).mono ?_
  rintro e w' ⟨u, c', rfl, rfl, hO⟩
  obtain ⟨c2, hF, hr⟩ := h5 c' u hO.heap hO.rel
  exact ⟨u, c2, rfl, hF.w.symm, hO.ext.trans hF.ext hO.le, hO.le, hF.heap, hr⟩
/-- arguments that are data -/
theorem row_told {H : HK} (hok : HKOK P H) {L : Loops} {g : FuncId} (hL : LoopsOf P H.G 0 L g) {As : Shs} {m : Back} {F : Vals As.tys → Option (Vals m.tys)} (hd : ∀ a, (allD (argV As a)).isSome = true) (h : ∀ a, fnK P H L g As m a some = F a) : RowOK P H.G (fnRow g As m F) := by
  have key : ∀ (ds : List D) (a : Vals As.tys) (q : Vals m.tys), decArgs As ds = some a → F a = some q → Enters P g ∧ PCall P H.G g ds (encR m q) := ?_
  · exact fun ds a q => key ds a q
  intro ds a q ha hq
  have hq' : fnK P H L g As m a some = some q := (h a).trans hq
  obtain ⟨h1, h2⟩ := fnK_sound hok hL (hd a) hq'
  refine ⟨h1, ?_⟩
  rw [decArgs_argD ha] at h2
  exact h2.coe coeA_len fun w I f hf => coeA_rel hf
/-! ### lists of what is told -/
def lp : List (Nat × Summ) → Loops
  | [], _ => .no
  | x :: r, k => bif x.1 == k then .yes x.2 else lp r k
def placeAt (c : Code) (k : Nat) : Code := match nodeAt c k with
  | some b => b
  | none => .skip
def bodyAt (c : Code) (k : Nat) : Code := match nodeAt c k with
  | some (.loop b) => b
  | _ => .skip
def codeOf (P : Program) (g : FuncId) : Code := match fnOf P g with
  | some d => d.code
  | none => .skip
def LpOK (P : Program) (G : Nat → Option (List D)) (nt n0 : Nat) (c : Code) : List (Nat × Summ) → Prop
  | [] => True
  | x :: r => SummOK P G nt n0 (placeAt c x.1) x.2 ∧ LpOK P G nt n0 c r
section
variable {G : Nat → Option (List D)} {nt n0 : Nat}
theorem lp_sem {c : Code} : ∀ {l : List (Nat × Summ)}, LpOK P G nt n0 c l → LoopsSem P G nt n0 (lp l) c 0
  | [], _, k, node, hn, s, hs => by cases hs
  | x :: r, h, k, node, hn, s, hs => by
    simp only [lp, Nat.zero_add] at hs
    cases hb : (x.1 == k) <;> rw [hb] at hs
    · simp only [cond_false] at hs
      exact lp_sem h.2 k node hn s (by rw [Nat.zero_add]; exact hs)
    · simp only [cond_true, Told.yes.injEq] at hs
      subst hs
      have hk : x.1 = k := by simpa using hb
      have := h.1
      rw [hk] at this
      simp only [placeAt, hn] at this
      exact this
theorem lp_of {g : FuncId} {l : List (Nat × Summ)} (h : LpOK P G (ntOf P g) n0 (codeOf P g) l) : LoopsOf P G n0 (lp l) g := by
  intro d hd
  have e1 : ntOf P g = d.nt := by simp only [ntOf, hd]
  have e2 : codeOf P g = d.code := by simp only [codeOf, hd]
  rw [e1, e2] at h
  exact lp_sem h
/-- a loop in a piece of code -/
theorem loop_sum {H : HK} (hok : HKOK P H) {c : Code} {k : Nat} {body : Code} (hn : placeAt c k = .loop body) (hc : okCode nt body = true) {l : List (Nat × Summ)} (hL : LpOK P H.G nt n0 body l) (sh : SSh) (os : PEnds) (ho : okEnds os = true)
    (t : Vals sh.tys → Option (Vals sh.tys ⊕ OutV os)) (h : ∀ s, turnK P H (lp l) body n0 sh os s some = t s) : SummOK P H.G nt n0 (placeAt c k) (NodeT.summ ⟨sh, os, rounds t⟩ n0) := by
  have key : ∀ s y, t s = some y → CodeN P H.G nt n0 body (sh.st (elts sh.tys s)) (turnEnd sh os y) := fun s y hy => turnK_sound hok hc (lp_sem hL) (by rw [h]; exact hy)
  intro st α K r hr
  unfold NodeT.summ at hr
  obtain ⟨ds, h1, hr⟩ := absK_sound hr
  split at hr
  · rename_i s hs
    obtain ⟨r', hf, hr⟩ := Option.bind_eq_some_iff.1 hr
    rw [outGo_is] at hr
    obtain ⟨n, hn'⟩ := rounds_some.1 hf
    have := (loopN_turns (e := fun s => sh.st (elts sh.tys s)) (x := outIs os) (okEnds_is ho) (fun s s' hs => key s _ hs) (fun s r hs => key s _ hs) n s r' hn').code
    have h2 : CodeN P H.G nt n0 (.loop body) (sh.st (elts sh.tys s)) (outIs os r') := this
    rw [decAll_elts hs] at h2
    rw [hn]
    exact ⟨_, _, CodeN.less h1 h2, hr⟩
  · cases hr
/-- another place in a piece of code -/
theorem place_sum {H : HK} (hok : HKOK P H) {c : Code} {k : Nat} (hc : okCode nt (placeAt c k) = true) {l : List (Nat × Summ)} (hL : LpOK P H.G nt n0 (placeAt c k) l) (sh : SSh) (os : PEnds)
    (f : Vals sh.tys → Option (OutV os)) (h : ∀ s, nodeK P H (lp l) (placeAt c k) n0 sh os s some = f s) : SummOK P H.G nt n0 (placeAt c k) (NodeT.summ ⟨sh, os, f⟩ n0) := by
  intro st α K r hr
  unfold NodeT.summ at hr
  obtain ⟨ds, h1, hr⟩ := absK_sound hr
  split at hr
  · rename_i s hs
    obtain ⟨r', hf, hr⟩ := Option.bind_eq_some_iff.1 hr
    rw [outGo_is] at hr
    have h2 := nodeK_sound hok hc (lp_sem hL) (y := r') (s := s) (by rw [h]; exact hf)
    rw [decAll_elts hs] at h2
    exact ⟨_, _, CodeN.less h1 h2, hr⟩
  · cases hr
end
def RowsOK (P : Program) (G : Nat → Option (List D)) : List Row → Prop
  | [] => True
  | w :: ws => RowOK P G w ∧ RowsOK P G ws
theorem rows_ok {G : Nat → Option (List D)} : ∀ {ws : List Row}, RowsOK P G ws → TabOK P G (tabF ws)
  | ws, h => tab_ok (all h)
where
  all : ∀ {ws : List Row}, RowsOK P G ws → ∀ w ∈ ws, RowOK P G w
    | [], _, w, hw => by cases hw
    | x :: ws, h, w, hw => by
      rcases List.mem_cons.1 hw with rfl | hw
      · exact h.1
      · exact all h.2 w hw
/-- a function of which only a closed call is told -/
def closedRow (g : FuncId) (q : D) : Row := ⟨g, Unit, Unit, fun ds => match ds with
  | [] => some ()
  | _ => none, fun _ => some (), fun _ => q⟩
theorem closed_ok {G : Nat → Option (List D)} {E : FuncId → Option (List D → Option (Bool × D))} (hE : ∀ g f, E g = some f → ExtOK P g (bare f)) {g : FuncId} {q : D} (k : Nat) (h : (hsN P G (fun g => (E g).map bare) k).pcall g [] = some q) : RowOK P G (closedRow g q) := by
  have key : ∀ (ds : List D) (a : Unit), (closedRow g q).dec ds = some a → Enters P g ∧ PCall P G g ds q := by
    intro ds a ha
    simp only [closedRow] at ha
    split at ha
    · have := (hsN_good (P := P) (G := G) (E := fun g => (E g).map bare) (fun g f h => by
        obtain ⟨f', h1, rfl⟩ := Option.map_eq_some_iff.1 h
        exact hE g f' h1) k).1.pcall g [] _ h
      rw [hsN_G] at this
      exact this
    · cases ha
  exact fun ds a q' ha _ => key ds a ha
/-- an octet of a text, as a number -/
def bt (s : ByteArray) (i : Nat) : Int := ((s.data.toList.getD i 0).toNat : Int)
/-- texts that are told -/
def bs (l : List UInt8) : ByteArray := ⟨l.toArray⟩
end Go.Fw
end
section
/- Readings of arguments, as typed data: numbers, texts, structs and slices of them. By this session. -/
set_option linter.unusedVariables false
set_option linter.unusedSimpArgs false
namespace Go.Fw
variable {P : Program}

mutual
/-- is a type of the program this one of plain data? -/
def okTy (P : Program) : Nat → TypeId → Ty → Bool
  | 0, _, _ => false
  | n + 1, t, T => match P.underlying t, T with
    | some .bool, .b => P.cellsOf t == 1
    | some (.int k), .i k' => decide (k = k') && P.cellsOf t == 1
    | some .string, .s => P.cellsOf t == 1
    | some (.slice e), .l T => P.cellsOf t == 1 && (okTy P n e T && (P.cellsOf e == T.w && Nat.blt 0 T.w))
    | some (.struct fs), .g T => okFs P n (P.cellsOf t) fs.toList 0 T
    | _, _ => false
def okFs (P : Program) : Nat → Nat → List Field → Nat → Ty → Bool
  | _, total, [], off, .u => off == total
  | 0, _, _, _, _ => false
  | n + 1, total, f :: fs, off, T => match fs, T with
    | [], T => f.offset == off && (okTy P n f.type T && (P.cellsOf f.type == T.w && off + T.w == total))
    | f' :: fs', .p a c => f.offset == off && (okTy P n f.type a && (P.cellsOf f.type == a.w && okFs P n total (f' :: fs') (off + a.w) c))
    | _, _ => false
  | _, _, _, _, _ => false
end
/-- data as they may be read -/
def Ty.fit : (T : Ty) → T.den → Prop
  | .b, _ => True
  | .s, x => x.size ≤ maxLen
  | .u, _ => True
  | .i k, n => (Lit.int k n).wf = true
  | .p a c, x => a.fit x.1 ∧ c.fit x.2
  | .g t, x => t.fit x
  | .l t, xs => xs.length ≤ maxLen ∧ ∀ x ∈ xs, t.fit x

def RelCs (w : World) (I : Mem) (ds : List D) (cs : List Value) : Prop := ds.length = cs.length ∧ ∀ (j : Nat) (d : D) (v : Value), ds[j]? = some d → cs[j]? = some v → RelD w I d v ∧ v.oneCell' = true
section
variable {H : Type} {enc : TypeId × Value → H} {w : World} {base : Nat} {spare : Nat → Bool} {held : Bool} {I : Mem}
theorem RelCs.one {d : D} {v : Value} (h : RelD w I d v) (h1 : v.oneCell' = true) : RelCs w I [d] [v] := by
  refine ⟨rfl, fun j d' v' hd hv => ?_⟩
  cases j with
  | zero => simp at hd hv; subst hd; subst hv; exact ⟨h, h1⟩
  | succ j => simp at hd
theorem RelCs.app {ds es : List D} {cs vs : List Value} (h : RelCs w I ds cs) (k : RelCs w I es vs) : RelCs w I (ds ++ es) (cs ++ vs) := by
  refine ⟨by simp [h.1, k.1], fun j d v hd hv => ?_⟩
  by_cases hj : j < ds.length
  · rw [List.getElem?_append_left hj] at hd
    rw [List.getElem?_append_left (by rw [← h.1]; exact hj)] at hv
    exact h.2 j d v hd hv
  · rw [List.getElem?_append_right (by omega)] at hd
    rw [List.getElem?_append_right (by rw [← h.1]; omega), ← h.1] at hv
    exact k.2 _ d v hd hv
theorem Ty.cells_len : ∀ (T : Ty) (x : T.den), (T.cells x).length = T.w
  | .b, _ => rfl
  | .s, _ => rfl
  | .u, _ => rfl
  | .i _, _ => rfl
  | .p a c, x => by simp only [Ty.cells, Ty.w, List.length_append, Ty.cells_len a, Ty.cells_len c]
  | .g t, x => Ty.cells_len t x
  | .l _, _ => rfl
theorem Ty.elt_width : ∀ (T : Ty) (x : T.den), (T.elt x).width = T.w
  | .b, _ => rfl
  | .s, _ => rfl
  | .u, _ => rfl
  | .i _, _ => rfl
  | .p a c, x => by simp only [Ty.elt, D.width, D.cells, List.length_append, Ty.cells_len, Ty.w]
  | .g t, x => Ty.cells_len t x
  | .l _, _ => rfl
theorem Ty.elt_cells : ∀ (T : Ty) (x : T.den), (T.elt x).cells = T.cells x
  | .b, _ => rfl
  | .s, _ => rfl
  | .u, _ => rfl
  | .i _, _ => rfl
  | .p _ _, _ => rfl
  | .g _, _ => rfl
  | .l _, _ => rfl
/-- a list, element by element -/
theorem list_of {α : Type} {n : Nat} {p : Nat → α → Prop} (h : ∀ i, i < n → ∃ x, p i x) : ∃ l : List α, l.length = n ∧ ∀ (i : Nat) (x : α), l[i]? = some x → p i x := by
  induction n with
  | zero => exact ⟨[], rfl, by simp⟩
  | succ n ih =>
    obtain ⟨l, h1, h2⟩ := ih fun i hi => h i (by omega)
    obtain ⟨x, hx⟩ := h n (by omega)
    refine ⟨l ++ [x], by simp [h1], fun i y hy => ?_⟩
    by_cases hi : i < l.length
    · rw [List.getElem?_append_left hi] at hy; exact h2 i y hy
    · rw [List.getElem?_append_right (by omega)] at hy
      have : i = n := by
        have := (List.getElem?_eq_some_iff.1 hy).1
        simp at this; omega
      subst this
      simp [h1] at hy
      subst hy; exact hx

theorem cells_some {a : Addr} {n : Nat} {cs : List Value} (h : w.cells? base a n = some cs) : cs.length = n ∧ ∀ (i : Nat) (v : Value), cs[i]? = some v → w.cell? (a.add i) = some v := by
  unfold World.cells? at h
  split at h
  · have h1 := mapM_some_length h
    refine ⟨by simpa using h1, fun i v hv => ?_⟩
    have hi := (List.getElem?_eq_some_iff.1 hv).1
    have hi' : i < n := by simp at h1; omega
    have h2 := mapM_some_get h i i (by simp [hi'])
    rw [h2]; exact hv
  · cases h
theorem cell_some {a : Addr} {v : Value} (h : w.cell? a = some v) : a.spot = none ∧ ∃ cs e fz, w.heap[a.block]? = some (.cells cs e fz) ∧ cs[a.off]? = some v := by
  unfold World.cell? at h
  split at h
  · rename_i cs e fz hb
    split at h
    · cases h
    · rename_i hs
      exact ⟨by simpa using hs, cs, e, fz, hb, h⟩
  · cases h
theorem add_block (a : Addr) (i : Nat) : (a.add i).block = a.block := by unfold Addr.add; split <;> rfl
theorem add_off (a : Addr) (i : Nat) : (a.add i).off = a.off + i := by
  unfold Addr.add
  split
  · rename_i h; rw [h]; rfl
  · rfl
theorem slice_rel {a : Addr} {len cap c : Nat} {T : Ty} (hc : c = T.w) (hw : 0 < T.w) (hcap : len ≤ cap) {l : List T.den} (hl : l.length = len)
    (h : ∀ (i : Nat) (y : T.den), l[i]? = some y → ∃ cs', w.cells? base (a.add (i * c)) c = some cs' ∧ RelCs w (fun b => b < w.heap.size) (T.cells y) cs') : RelD w (fun b => b < w.heap.size) (.sl T.w (.t T l)) (.slice (some a) len cap) := by
  subst hc
  by_cases h0 : len = 0
  · subst h0
    have : l = [] := List.eq_nil_of_length_eq_zero hl
    subst this
    exact .sl0 _ _ _ _ rfl (fun h => by cases h)
  · -- a cell of each element
    have cell : ∀ (i k : Nat) (y : T.den) (d : D), l[i]? = some y → (T.cells y)[k]? = some d → ∃ v, w.cell? ((a.add (i * T.w)).add k) = some v ∧ RelD w (fun b => b < w.heap.size) d v ∧ v.oneCell' = true := by
      intro i k y d hi hk
      obtain ⟨cs', h1, h2⟩ := h i y hi
      obtain ⟨h3, h4⟩ := cells_some h1
      have hkl := (List.getElem?_eq_some_iff.1 hk).1
      have hkc : k < cs'.length := by rw [← h2.1]; exact hkl
      have hv : cs'[k]? = some cs'[k] := List.getElem?_eq_getElem hkc
      obtain ⟨h5, h6⟩ := h2.2 k d _ hk hv
      exact ⟨_, h4 k _ hv, h5, h6⟩
    have get : ∀ i, i < len → ∃ y, l[i]? = some y := fun i hi => ⟨l[i]'(by omega), List.getElem?_eq_getElem (by omega)⟩
    have getC : ∀ (y : T.den) (k : Nat), k < T.w → ∃ d, (T.cells y)[k]? = some d := fun y k hk => ⟨(T.cells y)[k]'(by rw [Ty.cells_len]; exact hk), List.getElem?_eq_getElem (by rw [Ty.cells_len]; exact hk)⟩
    obtain ⟨y0, hy0⟩ := get 0 (by omega)
    obtain ⟨d0, hd0⟩ := getC y0 0 hw
    obtain ⟨v0, hv0, _, _⟩ := cell 0 0 y0 d0 hy0 hd0
    have e0 : (a.add (0 * T.w)).add 0 = a := by simp [Addr.add]
    rw [e0] at hv0
    obtain ⟨hsp, cs, e, fz, hb, _⟩ := cell_some hv0
    have at' : ∀ (i k : Nat) (y : T.den) (d : D), l[i]? = some y → (T.cells y)[k]? = some d → ∃ v, cs[a.off + i * T.w + k]? = some v ∧ RelD w (fun b => b < w.heap.size) d v ∧ v.oneCell' = true := by
      intro i k y d hi hk
      obtain ⟨v, h1, h2, h3⟩ := cell i k y d hi hk
      obtain ⟨_, cs1, e1, fz1, g1, g2⟩ := cell_some h1
      rw [add_block, add_block, hb] at g1
      injection g1 with g1
      injection g1 with g1
      subst g1
      rw [add_off, add_off] at g2
      exact ⟨v, g2, h2, h3⟩
    have flat : ∀ j, j < len * T.w → ∃ v, cs[a.off + j]? = some v ∧ v.oneCell' = true := by
      intro j hj
      have hq : j / T.w < len := Nat.div_lt_of_lt_mul (by rw [Nat.mul_comm]; exact hj)
      have hr : j % T.w < T.w := Nat.mod_lt _ hw
      obtain ⟨y, hy⟩ := get _ hq
      obtain ⟨d, hd⟩ := getC y _ hr
      obtain ⟨v, h1, _, h3⟩ := at' _ _ y d hy hd
      have : a.off + j / T.w * T.w + j % T.w = a.off + j := by
        have := Nat.div_add_mod j T.w
        rw [Nat.mul_comm] at this; omega
      rw [this] at h1
      exact ⟨v, h1, h3⟩
    have hpos : 0 < len * T.w := Nat.mul_pos (by omega) hw
    have hsz : a.off + len * T.w ≤ cs.size := by
      obtain ⟨v, hv, _⟩ := flat (len * T.w - 1) (by omega)
      have := (Array.getElem?_eq_some_iff.1 hv).1
      omega
    have hx : (Ls.t T l).xs.length = len := by simp [Ls.xs, hl]
    have := RelD.sl (w := w) (I := fun b => b < w.heap.size) T.w (.t T l) a cap cs e fz hsp (Array.getElem?_eq_some_iff.1 hb).1 hb (by rw [hx]; exact hcap) (fun x hx => by
        simp only [Ls.xs, List.mem_map] at hx
        obtain ⟨y, _, rfl⟩ := hx
        exact T.elt_width y) (by rw [hx]; exact hsz) (fun j hj => by
        rw [hx] at hj
        obtain ⟨v, hv, h1⟩ := flat j hj
        rw [Array.getD_eq_getD_getElem?, hv]; exact h1) (fun j k x d hj hk => by
        simp only [Ls.xs, List.getElem?_map] at hj
        obtain ⟨y, hy, rfl⟩ := Option.map_eq_some_iff.1 hj
        rw [Ty.elt_cells] at hk
        obtain ⟨v, h1, h2, _⟩ := at' j k y d hy hk
        rw [Array.getD_eq_getD_getElem?, h1]; exact h2)
    rw [hx] at this
    exact this

theorem read_ty (hI : True) : ∀ (n k : Nat) (t : TypeId) (T : Ty) (cs : List Value) (x : DataW H × List MemPlace), DataW.trod enc P w base spare held n t cs = some x → okTy P k t T = true →
    ∃ y : T.den, T.fit y ∧ RelCs w (fun b => b < w.heap.size) (T.cells y) cs := by
  intro n
  induction n with
  | zero => intro k t T cs x h _; simp [DataW.trod] at h
  | succ n ih =>
    intro k t T cs x h hk
    cases k with
    | zero => simp [okTy] at hk
    | succ k =>
      simp only [okTy] at hk
      split at hk
      · rename_i hu
        obtain ⟨b, rfl, _⟩ := DataW.trod_bool hu h
        exact ⟨b, trivial, .one (.b b) rfl⟩
      · rename_i ki kj hu
        simp only [Bool.and_eq_true, decide_eq_true_eq] at hk
        obtain ⟨rfl, _⟩ := hk
        obtain ⟨m, rfl, _, hw⟩ := DataW.trod_int hu h
        exact ⟨m, hw, .one (.i ki m) rfl⟩
      · rename_i hu
        obtain ⟨s, rfl, _, hw⟩ := DataW.trod_string hu h
        exact ⟨s, hw, .one (.s s) rfl⟩
      · rename_i e T hu
        simp only [Bool.and_eq_true, beq_iff_eq] at hk
        obtain ⟨_, hke, hce, hw0⟩ := hk
        have hw0 : 0 < T.w := by simpa [Nat.blt_eq] using hw0
        rcases DataW.trod_slice hu h with ⟨rfl, _⟩ | ⟨a, len, cap, elems, rest, m, hm, rfl, _, hb, hl, hcm, hlen, hel, _, _⟩
        · exact ⟨([] : List T.den), ⟨Nat.zero_le _, by simp⟩, .one (.sl0 _ _ _ _ rfl (fun _ => rfl)) rfl⟩
        · have hmn : m = n := by omega
          subst hmn
          obtain ⟨l, hll, hp⟩ := list_of (n := len) (p := fun i (y : T.den) => T.fit y ∧ ∃ cs', w.cells? base (a.add (i * P.cellsOf e)) (P.cellsOf e) = some cs' ∧ RelCs w (fun b => b < w.heap.size) (T.cells y) cs') (fun i hi => by
            have h1 := hel i hi
            rw [List.getElem?_eq_getElem (by omega)] at h1
            obtain ⟨cs', h2, h3⟩ := Option.bind_eq_some_iff.1 h1
            obtain ⟨y, h4, h5⟩ := ih k e T cs' _ h3 hke
            exact ⟨y, h4, cs', h2, h5⟩)
          refine ⟨l, ⟨by omega, fun x hx => ?_⟩, .one (slice_rel hce hw0 hl hll fun i y hy => (hp i y hy).2) rfl⟩
          obtain ⟨i, hi⟩ := List.getElem?_of_mem hx
          exact (hp i x hi).1
      · rename_i fs T hu
        obtain ⟨xs, m, hm, _, hl, hlen, hf⟩ := DataW.trod_struct hu h
        have hmn : m = n := by omega
        subst hmn
        obtain ⟨y, h1, h2, _⟩ := fields cs ih fs.toList k 0 T (by rw [hl]; exact hk) (fun f hf' => by
          obtain ⟨i, hi⟩ := List.getElem?_of_mem hf'
          rw [Array.getElem?_toList] at hi
          have hlt : i < xs.length := by rw [hlen]; exact (Array.getElem?_eq_some_iff.1 hi).1
          exact ⟨xs[i], by rw [hf i f hi, List.getElem?_eq_getElem hlt]⟩)
        exact ⟨y, h1, by rw [List.drop_zero] at h2; exact h2⟩
      · cases hk
where
  fields {n : Nat} (cs : List Value) (ih : ∀ (k : Nat) (t : TypeId) (T : Ty) (cs : List Value) (x : DataW H × List MemPlace), DataW.trod enc P w base spare held n t cs = some x → okTy P k t T = true → ∃ y : T.den, T.fit y ∧ RelCs w (fun b => b < w.heap.size) (T.cells y) cs) :
      ∀ (fs : List Field) (k off : Nat) (T : Ty), okFs P k cs.length fs off T = true → (∀ f ∈ fs, ∃ x, DataW.trod enc P w base spare held n f.type ((cs.drop f.offset).take (P.cellsOf f.type)) = some x) →
      ∃ y : T.den, T.fit y ∧ RelCs w (fun b => b < w.heap.size) (T.cells y) (cs.drop off) ∧ off ≤ cs.length
    | [], k, off, T, hk, _ => by
      have h2 : T = .u ∧ off = cs.length := by
        cases k <;> cases T <;> simp [okFs] at hk <;> exact ⟨rfl, hk⟩
      obtain ⟨rfl, h2⟩ := h2
      subst h2
      exact ⟨(), trivial, ⟨by simp [Ty.cells], fun j d v hd => by simp [Ty.cells] at hd⟩, Nat.le_refl _⟩
    | [f], k, off, T, hk, hx => by
      cases k with
      | zero => simp [okFs] at hk
      | succ k =>
        simp only [okFs, Bool.and_eq_true, beq_iff_eq] at hk
        obtain ⟨ho, hkt, hc, ht⟩ := hk
        obtain ⟨x, hx0⟩ := hx f List.mem_cons_self
        obtain ⟨y, h1, h2⟩ := ih k f.type T _ x hx0 hkt
        refine ⟨y, h1, ?_, by omega⟩
        rw [ho, hc, List.take_of_length_le (by simp; omega)] at h2
        exact h2
    | f :: f' :: fs, k, off, T, hk, hx => by
      cases k with
      | zero => simp [okFs] at hk
      | succ k =>
        cases T <;> first | (simp [okFs] at hk; done) | skip
        rename_i a c
        simp only [okFs, Bool.and_eq_true, beq_iff_eq] at hk
        obtain ⟨ho, hkt, hc, hr⟩ := hk
        obtain ⟨x, hx0⟩ := hx f List.mem_cons_self
        obtain ⟨y, h1, h2⟩ := ih k f.type a _ x hx0 hkt
        obtain ⟨z, h3, h4, h5⟩ := fields cs ih (f' :: fs) k _ c hr (fun g hg => hx g (List.mem_cons_of_mem _ hg))
        refine ⟨(y, z), ⟨h1, h3⟩, ?_, by omega⟩
        rw [ho, hc] at h2
        have := h2.app h4
        rw [← List.drop_drop, List.take_append_drop] at this
        exact this
/-- cells that stand for a struct's are the struct's -/
theorem RelCs.agg {I : Mem} {ds : List D} {cs : Array Value} (h : RelCs w I ds cs.toList) : RelD w I (.ag ds) (.agg cs) := by
  refine .ag ds cs (by rw [h.1, Array.length_toList]) (fun j hj => ?_) (fun j d hd => ?_)
  · have hj' : j < cs.size := by rw [h.1, Array.length_toList] at hj; exact hj
    have := (h.2 j _ _ (List.getElem?_eq_getElem hj) (by rw [Array.getElem?_toList, Array.getElem?_eq_getElem hj'])).2
    simpa [Array.getD_eq_getD_getElem?, Array.getElem?_eq_getElem hj'] using this
  · have hj := (List.getElem?_eq_some_iff.1 hd).1
    have hj' : j < cs.size := by rw [h.1, Array.length_toList] at hj; exact hj
    have := (h.2 j d _ hd (by rw [Array.getElem?_toList, Array.getElem?_eq_getElem hj'])).1
    simpa [Array.getD_eq_getD_getElem?, Array.getElem?_eq_getElem hj'] using this
end
open Go.WideShapes in
/-- an argument, read -/
theorem read_arg {H : Type} {enc : TypeId × Value → H} {W : World} {base : Nat} {t : TypeId} {T : Ty} {v : Value} {d : DataW H} {p : List MemPlace} (hk : okTy P 40 t T = true) (hv : Value.okWide P W .any base t v) (h : DataW.Trod enc P W 0 (fun _ => true) true t v d p) :
    ∃ y : T.den, T.fit y ∧ RelD W (fun b => b < W.heap.size) (T.elt y) v := by
  obtain ⟨n, hn⟩ := h
  obtain ⟨y, h1, h2⟩ := read_ty trivial n 40 t T _ _ hn hk
  refine ⟨y, h1, ?_⟩
  have leaf : ∀ {d : D} {v : Value}, v.cells = #[v] → RelCs W (fun b => b < W.heap.size) [d] v.cells.toList → RelD W (fun b => b < W.heap.size) d v := by
    intro d v hc hr
    rw [hc] at hr
    exact (hr.2 0 d v rfl rfl).1
  simp only [okTy] at hk
  split at hk
  · rename_i hu
    obtain ⟨b, rfl⟩ := okWide_bool hu hv
    exact leaf rfl h2
  · rename_i hu
    obtain ⟨b, rfl⟩ := okWide_int hu hv
    exact leaf rfl h2
  · rename_i hu
    obtain ⟨b, rfl⟩ := okWide_string hu hv
    exact leaf rfl h2
  · rename_i hu
    obtain ⟨a, len, cap, rfl⟩ := okWide_slice hu hv
    exact leaf rfl h2
  · rename_i hu
    obtain ⟨cs, rfl, _⟩ := okWide_struct hu hv
    exact h2.agg
  · cases hk
/-- a call that is told, as it is asked for at the top -/
theorem top_call {G : Nat → Option (List D)} {g : FuncId} {ds : List D} {r : D} (h : PCall P G g ds r) {W : World} (hG : Glob ⟨W, fun b => b < W.heap.size, fun _ => False, fun _ => 0, fun _ => 0, G⟩) {vs : Array Value} (hsz : vs.size = ds.length)
    (hv : ∀ (j : Nat) (d : D), ds[j]? = some d → RelD W (fun b => b < W.heap.size) d (vs.getD j undef)) : Calls P g vs W fun e W' => (∃ v I', e = .returned v ∧ RelX W' I' (fun _ => False) r v) ∧ Go.RowKit.Below W.heap.size W W' := by
  refine (h W (fun b => b < W.heap.size) (fun _ => False) vs hG (fun _ h => h) (fun _ h => h.elim) (fun _ _ h => h) hsz hv).mono ?_
  rintro e w' ⟨v, I', he, h1, h2, h3, h4, h5, h6, h7, h8, h9⟩
  exact ⟨⟨v, I', he, h9⟩, h6, h7, h8, h1, fun k hk => (h2 k hk).2⟩
theorem glob_none {W : World} {I K : Mem} {bk ln : Nat → Nat} : Glob ⟨W, I, K, bk, ln, fun _ => none⟩ := fun g cs h => by cases h
end Go.Fw
end
section
/- A law's call, from its arguments as they may be read: it returns true, and what was handed in reads as it did. By this session. -/
set_option linter.unusedVariables false
set_option linter.unusedSimpArgs false
namespace Go.Fw
open Go.ChangeShapes Go.WideShapes Go.ChangeAt Go.RowKit
/-- are these types of the program these of plain data? -/
def okTys (P : Program) : List TypeId → List Ty → Bool
  | [], [] => true
  | t :: ts, T :: Ts => okTy P 40 t T && (P.readableRec t && (decide (t < P.types.size) && okTys P ts Ts))
  | _, _ => false
def FitAll : (Ts : List Ty) → Vals Ts → Prop
  | [], _ => True
  | [T], x => T.fit x
  | T :: T' :: Ts, x => T.fit x.1 ∧ FitAll (T' :: Ts) x.2
section
variable {P : Program} {H : Type} {enc : TypeId × Value → H} {W : World} {base : Nat}
theorem read_all : ∀ {ts : List TypeId} {Ts : List Ty} {vs : List Value} {ds : List (DataW H)} {ps : List MemPlace}, okTys P ts Ts = true → DataW.TrodAll enc P W 0 (fun _ => true) true ts vs ds ps →
    (∀ (j : Nat) t v, ts[j]? = some t → vs[j]? = some v → Value.okWide P W .any base t v) →
    ∃ a : Vals Ts, FitAll Ts a ∧ ds.length = ts.length ∧ vs.length = (elts Ts a).length ∧ (∀ (j : Nat) (d : D), (elts Ts a)[j]? = some d → ∃ v, vs[j]? = some v ∧ RelD W (fun b => b < W.heap.size) d v)
  | [], [], vs, ds, ps, hk, h, hv => by
    obtain ⟨rfl, rfl, rfl⟩ := trodAll_nil h
    exact ⟨(), trivial, rfl, rfl, fun j d hd => by simp [elts] at hd⟩
  | [], _ :: _, vs, ds, ps, hk, h, hv => by simp [okTys] at hk
  | _ :: _, [], vs, ds, ps, hk, h, hv => by simp [okTys] at hk
  | t :: ts, T :: Ts, vs, ds, ps, hk, h, hv => by
    simp only [okTys, Bool.and_eq_true] at hk
    obtain ⟨hk, _, _, hks⟩ := hk
    obtain ⟨v, vs', d, ds', p, q, rfl, rfl, rfl, h0, h1⟩ := trodAll_cons h
    obtain ⟨y, hy, hr⟩ := read_arg hk (hv 0 t v rfl rfl) h0
    obtain ⟨a, ha, hl, hls, hrs⟩ := read_all hks h1 fun j t v ht hj => hv (j + 1) t v ht hj
    cases Ts with
    | nil =>
      cases ts with
      | cons => simp [okTys] at hks
      | nil =>
        obtain ⟨rfl, rfl, rfl⟩ := trodAll_nil h1
        refine ⟨y, hy, rfl, rfl, fun j d hd => ?_⟩
        cases j with
        | zero => simp [elts] at hd; subst hd; exact ⟨v, rfl, hr⟩
        | succ j => simp [elts] at hd
    | cons T' Ts =>
      refine ⟨(y, a), ⟨hy, ha⟩, by simp [hl], by simp [elts, hls], fun j d hd => ?_⟩
      cases j with
      | zero => simp [elts] at hd; subst hd; exact ⟨v, rfl, hr⟩
      | succ j => simp only [elts, List.getElem?_cons_succ] at hd; exact hrs j d hd
theorem trod_back (hl : laidOutB P = true) {W' : World} (hb : Below W.heap.size W W') : ∀ {ts : List TypeId} {Ts : List Ty} {vs : List Value} {ds : List (DataW H)} {ps : List MemPlace}, okTys P ts Ts = true → DataW.TrodAll enc P W 0 (fun _ => true) true ts vs ds ps →
    DataW.TrodAll enc P W' 0 (fun b => decide (b < W.heap.size)) true ts vs ds ps
  | [], [], vs, ds, ps, hk, h => by
    obtain ⟨rfl, rfl, rfl⟩ := trodAll_nil h
    exact trodAll_mk0
  | [], _ :: _, vs, ds, ps, hk, h => by simp [okTys] at hk
  | _ :: _, [], vs, ds, ps, hk, h => by simp [okTys] at hk
  | t :: ts, T :: Ts, vs, ds, ps, hk, h => by
    simp only [okTys, Bool.and_eq_true, decide_eq_true_eq] at hk
    obtain ⟨hk, hrr, hsz, hks⟩ := hk
    obtain ⟨v, vs', d, ds', p, q, rfl, rfl, rfl, h0, h1⟩ := trodAll_cons h
    have lt : ∀ x ∈ p, x.block < W.heap.size := by
      obtain ⟨m, hm⟩ := h0
      exact DataW.trod_lt m _ _ _ hm
    exact trodAll_cons_mk (Below.trod hl hrr hsz h0 hb lt) (trod_back hl hb hks h1)
/-- a law's call -/
theorem law_call {fn : Func} {g : FuncId} {As : Shs} {F : Vals As.tys → Option Bool} {s : ChangeSpec} {tb : TypeId} (hl : laidOutB P = true)
    (hok : RowOK P (fun _ => none) (fnRow g As [(false, .b)] F)) (hty : okTys P fn.params.toList As.tys = true) (hdec : ∀ a : Vals As.tys, decArgs As (elts As.tys a) = some a)
    (hres : fn.resultTypes = #[tb]) (htb : P.underlying tb = some .bool) (hvars : s.vars = []) (hspec : ∀ ds : List (DataW H), ds.length = fn.params.toList.length → (s.fn H ds).results = [.lit (.bool true)] ∧ (s.fn H ds).args = ds ∧ (s.fn H ds).vars = [])
    (hlaw : ∀ a : Vals As.tys, FitAll As.tys a → F a = some true)
    {args : Array Value} {ds gs : List (DataW H)} {before : List MemPlace} (hval : ∀ (j : Nat) t v, fn.params[j]? = some t → args[j]? = some v → Value.okWide P W .any base t v)
    (hW : DataW.Whole enc P fn.params.toList s.vars false W args.toList ds gs before) :
    Calls P g args W fun e W' => ∃ v, e = .returned v ∧ s.post enc P fn false true false false W args v W' := by
  have hW' := hW
  obtain ⟨p, q, hA, hV, rfl, hfz, hnd⟩ := hW
  obtain ⟨a, ha, hdl, hvl, hr⟩ := read_all hty hA fun j t v ht hv => hval j t v (by rw [← Array.getElem?_toList]; exact ht) (by rw [← Array.getElem?_toList]; exact hv)
  rw [hvars] at hV
  obtain ⟨rfl, rfl⟩ := trodVars_none hV
  have call := (hok _ a true (hdec a) (hlaw a ha)).2
  refine (top_call (W := W) (vs := args) call glob_none (by rw [← Array.length_toList]; exact hvl) (fun j d hd => ?_)).mono ?_
  · obtain ⟨v, hv, hrel⟩ := hr j d hd
    rw [Array.getElem?_toList] at hv
    rw [Array.getD_eq_getD_getElem?, hv]
    exact hrel
  · rintro e W' ⟨⟨v, I', rfl, hx⟩, bel⟩
    have hv : v = .bool true := by
      have hx' : RelX W' I' (fun _ => False) (.b true) v := hx
      cases hx'; rfl
    subst hv
    obtain ⟨s1, s2, s3⟩ := hspec (ds ++ []) (by rw [List.append_nil]; exact hdl)
    refine ⟨_, rfl, ds, [], p ++ [], [], p, [], hW', ?_, ?_, ?_, bel.frame _, fun h => by cases h⟩
    · rw [s1, hres]
      exact trodAll_mk1 (shut_bool htb _)
    · rw [s2, List.append_nil]
      exact trod_back hl bel hty hA
    · rw [s3, hvars]; rfl
end
end Go.Fw
end
section
/- Loops as rounds, texts and numbers: plain laws. By this session. -/
set_option linter.unusedVariables false
set_option linter.unusedSimpArgs false
namespace Go.Fw
theorem wrap_i64 {n : Int} (h1 : -9223372036854775808 ≤ n) (h2 : n ≤ 9223372036854775807) : IntKind.wrap .i64 n = n := by rw [IntKind.wrap_i64]; omega
theorem wrap_u64 (n : Int) : IntKind.wrap .u64 n = n % 18446744073709551616 := by
  show (if (false && decide (n % 18446744073709551616 ≥ 9223372036854775808)) = true then n % 18446744073709551616 - 18446744073709551616 else n % 18446744073709551616) = _
  simp
theorem wrap_u8 (n : Int) : IntKind.wrap .u8 n = n % 256 := by
  show (if (false && decide (n % 256 ≥ 128)) = true then n % 256 - 256 else n % 256) = _
  simp
theorem wrap_up {n : Nat} (h : n < 9223372036854775807) : IntKind.wrap .i64 ((n : Int) + 1) = ((n + 1 : Nat) : Int) := by rw [wrap_i64 (by omega) (by omega)]; omega
theorem bt_bound (s : ByteArray) (i : Nat) : 0 ≤ bt s i ∧ bt s i ≤ 255 := by
  unfold bt
  have := (s.data.toList.getD i 0).toNat_lt
  omega
section
variable {S R : Type} {t : S → Option (S ⊕ R)}
theorem rounds_end {s : S} {r : R} (h : t s = some (.inr r)) : rounds t s = some r := by rw [rounds_eq, h]
theorem rounds_next {s s' : S} (h : t s = some (.inl s')) : rounds t s = rounds t s' := by rw [rounds_eq, h]
theorem rounds_to (st : Nat → S) (n : Nat) (h : ∀ i, i < n → t (st i) = some (.inl (st (i + 1)))) : rounds t (st 0) = rounds t (st n) := by
  induction n with
  | zero => rfl
  | succ n ih => rw [ih fun i hi => h i (by omega), rounds_next (h n (by omega))]
/-- rounds that go on while it is so -/
theorem rounds_all (st : Nat → S) (p : Nat → Bool) (out fin : R) (n : Nat) (h : ∀ i, i < n → t (st i) = some (bif p i then .inl (st (i + 1)) else .inr out)) (hf : t (st n) = some (.inr fin)) :
    rounds t (st 0) = some (bif (List.range n).all p then fin else out) := by
  have go : ∀ k, k ≤ n → rounds t (st 0) = bif (List.range k).all p then rounds t (st k) else some out := by
    intro k
    induction k with
    | zero => intro _; rfl
    | succ k ih =>
      intro hk
      rw [ih (by omega), List.range_succ, List.all_append]
      cases (List.range k).all p with
      | false => rfl
      | true =>
        have h1 := h k (by omega)
        cases hp : p k with
        | false => rw [hp] at h1; simp [hp, rounds_end h1]
        | true => rw [hp] at h1; simp [hp, rounds_next h1]
  rw [go n (Nat.le_refl _), rounds_end hf]
  cases (List.range n).all p <;> rfl
end
/-- sums of so many -/
def sumTo (f : Nat → Int) : Nat → Int
  | 0 => 0
  | n + 1 => sumTo f n + f n
theorem sumTo_back (f : Nat → Int) : ∀ n, sumTo (fun j => f (n - 1 - j)) n = sumTo f n := by
  have first : ∀ (g : Nat → Int) (n : Nat), sumTo g (n + 1) = g 0 + sumTo (fun j => g (j + 1)) n := by
    intro g n
    induction n with
    | zero => simp [sumTo]
    | succ n ih => rw [sumTo, ih, sumTo]; omega
  have same : ∀ (g h : Nat → Int) (n : Nat), (∀ j, j < n → g j = h j) → sumTo g n = sumTo h n := by
    intro g h n
    induction n with
    | zero => intro _; rfl
    | succ n ih => intro hh; rw [sumTo, sumTo, ih fun j hj => hh j (by omega), hh n (by omega)]
  intro n
  induction n with
  | zero => rfl
  | succ n ih =>
    rw [first, sumTo, ← ih, same (fun j => f (n + 1 - 1 - (j + 1))) (fun j => f (n - 1 - j)) n fun j hj => by
      have : n + 1 - 1 - (j + 1) = n - 1 - j := by omega
      simp only [this]]
    simp only [Nat.add_sub_cancel, Nat.sub_zero]
    omega
theorem sumTo_bound {f : Nat → Int} {b : Int} : ∀ {n : Nat}, (∀ j, j < n → 0 ≤ f j ∧ f j ≤ b) → 0 ≤ sumTo f n ∧ sumTo f n ≤ b * n
  | 0, _ => by simp [sumTo]
  | n + 1, h => by
    have ih := sumTo_bound (f := f) (b := b) (n := n) fun j hj => h j (by omega)
    have := h n (by omega)
    have e : b * ((n + 1 : Nat) : Int) = b * n + b := by rw [Int.natCast_add, Int.mul_add]; simp
    rw [sumTo, e]
    omega
theorem sumTo_same {g h : Nat → Int} : ∀ {n : Nat}, (∀ j, j < n → g j = h j) → sumTo g n = sumTo h n
  | 0, _ => rfl
  | n + 1, hh => by rw [sumTo, sumTo, sumTo_same fun j hj => hh j (by omega), hh n (by omega)]
/-! ### lists -/
theorem getD_at {α : Type} {l : List α} {i : Nat} {d : α} (h : i < l.length) : l.getD i d = l[i] := by simp [List.getD_eq_getElem?_getD, List.getElem?_eq_getElem h]
theorem take_up {α : Type} {l : List α} {i : Nat} (d : α) (h : i < l.length) : l.take (i + 1) = l.take i ++ [l.getD i d] := by
  rw [List.take_succ_eq_append_getElem h, getD_at h]
theorem range_all {α : Type} (p : α → Bool) (d : α) (l : List α) : ((List.range l.length).all fun i => p (l.getD i d)) = l.all p := by
  rw [Bool.eq_iff_iff, List.all_eq_true, List.all_eq_true]
  constructor
  · intro h x hx
    obtain ⟨i, hi, rfl⟩ := List.getElem_of_mem hx
    have := h i (List.mem_range.2 hi)
    rwa [getD_at hi] at this
  · intro h i hi
    have hi := List.mem_range.1 hi
    rw [getD_at hi]
    exact h _ (List.getElem_mem hi)
/-- is there room for one more? -/
theorem room {n m : Nat} (w k : Nat) (h : n ≤ m) (hw : (m + 1) * w ≤ k) : Nat.ble ((n + 1) * w) k = true := Nat.ble_eq_true_of_le (Nat.le_trans (Nat.mul_le_mul_right w (by omega)) hw)
end Go.Fw
end
section
/- The program of this seat, the types of its data, and its functions without a body. By this session. -/
set_option linter.unusedVariables false
set_option linter.unusedSimpArgs false
namespace Go.Proofs.Ytloambokbipnjaa
open Go Go.Fw
noncomputable abbrev P := Try.prog
abbrev G0 : Nat → Option (List D) := fun _ => none
abbrev T_api_Account : Ty := (.g (.p (.i .i64) .s))
abbrev T_api_Mti : Ty := (.g (.p (.i .i64) (.p .b (.p .b .b))))
abbrev T_bursarlaw14_Act : Ty := (.g (.p (.i .i64) (.p (.i .i64) (.i .i64))))
abbrev T_api_Hold : Ty := (.g (.p .s (.p .s (.p .s (.p (.i .i64) (.p (.i .i64) (.p (.i .i64) .b)))))))
def add64 : List D → Option (Bool × D) := fun ds => match ds with
  | [.i .u64 x, .i .u64 y, .i .u64 c] => some (decide (0 ≤ x) && decide (0 ≤ y) && decide (0 ≤ c) && decide (c ≤ 1), .tp [.i .u64 ((x + y + c) % 18446744073709551616), .i .u64 ((x + y + c) / 18446744073709551616)])
  | _ => none
theorem add64_ok : ExtOK P 48 (bare add64) := by
  intro ds r h w I vs hsz hv
  unfold bare add64 at h
  split at h
  · rename_i b q hq
    obtain ⟨hb, h⟩ := cond_some h
    injection h with h
    subst h
    split at hq
    · rename_i x y c
      injection hq with hq
      injection hq with hq1 hq2
      subst hq2
      rw [hb] at hq1
      simp only [Bool.and_eq_true, decide_eq_true_eq] at hq1
      have e0 := hv 0 _ rfl
      have e1 := hv 1 _ rfl
      have e2 := hv 2 _ rfl
      have hvs : vs = #[.int .u64 x, .int .u64 y, .int .u64 c] := by
        have : vs = #[vs.getD 0 undef, vs.getD 1 undef, vs.getD 2 undef] := by
          apply Array.ext
          · simpa using hsz
          · intro i hi hi'
            simp at hi'
            have : i = 0 ∨ i = 1 ∨ i = 2 := by omega
            rcases this with rfl | rfl | rfl <;> simp [Array.getD_eq_getD_getElem?, Array.getElem?_eq_getElem hi]
        rw [this]
        generalize vs.getD 0 undef = a0 at e0
        generalize vs.getD 1 undef = a1 at e1
        generalize vs.getD 2 undef = a2 at e2
        cases e0; cases e1; cases e2
        rfl
      refine ⟨_, by rw [hvs, run_callFunc_extern Try.func48 (by kernel_rfl) (by kernel_rfl) (by kernel_rfl) (e := add64Entry) (by kernel_rfl), run_add64 x y c (by omega) (by omega) (by omega) (by omega)]; rfl, ?_⟩
      refine .tp _ _ rfl fun j d hj => ?_
      match j, hj with
      | 0, hj => simp at hj; subst hj; exact .i _ _
      | 1, hj => simp at hj; subst hj; exact .i _ _
      | j + 2, hj => simp at hj
    · cases hq
  · cases h
def cmpS : List D → Option (Bool × D) := fun ds => match ds with
  | [.s x, .s y] => some (true, .i .i64 (Lib.compareBytes x.data.toList y.data.toList))
  | _ => none
theorem cmpS_ok : ExtOK P 70 (bare cmpS) := by
  intro ds r h w I vs hsz hv
  unfold bare cmpS at h
  split at h
  · rename_i b q hq
    obtain ⟨hb, h⟩ := cond_some h
    injection h with h
    subst h
    split at hq
    · rename_i x y
      injection hq with hq
      injection hq with hq1 hq2
      subst hq2
      have e0 := hv 0 _ rfl
      have e1 := hv 1 _ rfl
      have hvs : vs = #[vs.getD 0 undef, vs.getD 1 undef] := by
        apply Array.ext
        · simpa using hsz
        · intro i hi hi'
          simp at hi'
          have : i = 0 ∨ i = 1 := by omega
          rcases this with rfl | rfl <;> simp [Array.getD_eq_getD_getElem?, Array.getElem?_eq_getElem hi]
      generalize vs.getD 0 undef = a0 at e0 hvs
      generalize vs.getD 1 undef = a1 at e1 hvs
      cases e0; cases e1
      refine ⟨_, by rw [hvs, run_callFunc_extern Try.func70 (by kernel_rfl) (by kernel_rfl) (by kernel_rfl) (e := Extern.BytealgCompare.compare) (by kernel_rfl), Lib.run_compareString]; rfl, ?_⟩
      exact .i _ _
    · cases hq
  · cases h
abbrev E0 : FuncId → Option (List D → Option (Bool × D)) := fun g => bif g == 48 then some add64 else bif g == 70 then some cmpS else none
theorem e0_ok : ∀ g f, E0 g = some f → ExtOK P g (bare f) := by
  intro g f h
  unfold E0 at h
  cases hg48 : (g == 48) with
  | true =>
    rw [hg48] at h
    injection h with h
    subst h
    have : g = 48 := by simpa using hg48
    subst this
    exact add64_ok
  | false =>
  rw [hg48] at h
  simp only [cond_false] at h
  cases hg70 : (g == 70) with
  | true =>
    rw [hg70] at h
    injection h with h
    subst h
    have : g = 70 := by simpa using hg70
    subst this
    exact cmpS_ok
  | false =>
  rw [hg70] at h
  simp only [cond_false] at h
  cases h
end Go.Proofs.Ytloambokbipnjaa
end
section
/- The Go function mti.May, as a Lean function, and that it is this one. Written by a program of this session. -/
set_option linter.unusedVariables false
set_option maxRecDepth 100000
namespace Go.Proofs.Ytloambokbipnjaa
open Go Go.Fw
abbrev mti_May.As : Shs := (.cons (.x T_api_Mti) .nil)
abbrev mti_May.m : Back := [(false, .b)]
noncomputable abbrev mti_May.H : HK := hk P G0 E0 [] noLoops 4
theorem mti_May.hok : HKOK P mti_May.H := hk_ok e0_ok (rows_ok (ws := []) trivial) (fun g n => noLoops_ok g n) 4
noncomputable def mti_May.f (a : (Int × (Bool × (Bool × Bool)))) : Option Bool := (bif (a.1 == (1 : Int)) then (bif (a.1 == (1 : Int)) then (bif (!a.2.2.1) then (some true) else (some (!a.2.2.2))) else (bif (a.1 == (6 : Int)) then (bif (a.1 == (6 : Int)) then (bif a.2.1 then (some false) else (bif (!a.2.2.1) then (some true) else (some (!a.2.2.2)))) else (some false)) else (bif (a.1 == (8 : Int)) then (bif a.2.1 then (some false) else (bif (!a.2.2.1) then (some true) else (some (!a.2.2.2)))) else (some false)))) else (bif (a.1 == (2 : Int)) then (bif (a.1 == (2 : Int)) then (bif (!a.2.2.1) then (some true) else (some (!a.2.2.2))) else (bif (a.1 == (6 : Int)) then (bif (a.1 == (6 : Int)) then (bif a.2.1 then (some false) else (bif (!a.2.2.1) then (some true) else (some (!a.2.2.2)))) else (some false)) else (bif (a.1 == (8 : Int)) then (bif a.2.1 then (some false) else (bif (!a.2.2.1) then (some true) else (some (!a.2.2.2)))) else (some false)))) else (bif (a.1 == (4 : Int)) then (bif (a.1 == (4 : Int)) then (bif (!a.2.2.1) then (some true) else (some (!a.2.2.2))) else (bif (a.1 == (6 : Int)) then (bif (a.1 == (6 : Int)) then (bif a.2.1 then (some false) else (bif (!a.2.2.1) then (some true) else (some (!a.2.2.2)))) else (some false)) else (bif (a.1 == (8 : Int)) then (bif a.2.1 then (some false) else (bif (!a.2.2.1) then (some true) else (some (!a.2.2.2)))) else (some false)))) else (bif (a.1 == (5 : Int)) then (bif (!a.2.2.1) then (some true) else (some (!a.2.2.2))) else (bif (a.1 == (6 : Int)) then (bif (a.1 == (6 : Int)) then (bif a.2.1 then (some false) else (bif (!a.2.2.1) then (some true) else (some (!a.2.2.2)))) else (some false)) else (bif (a.1 == (8 : Int)) then (bif a.2.1 then (some false) else (bif (!a.2.2.1) then (some true) else (some (!a.2.2.2)))) else (some false)))))))
theorem mti_May.ok : ∀ a : Vals mti_May.As.tys, fnK P mti_May.H (lp []) 23 mti_May.As mti_May.m a some = mti_May.f a := fun a => by kernel_rfl
noncomputable abbrev mti_May.row : Row := fnRow 23 mti_May.As mti_May.m mti_May.f
theorem mti_May.row_ok : RowOK P G0 mti_May.row := row_told mti_May.hok (lp_of (l := []) trivial) (fun _ => rfl) mti_May.ok
end Go.Proofs.Ytloambokbipnjaa
end
section
/- The Go function mti.bits, as a Lean function, and that it is this one. Written by a program of this session. -/
set_option linter.unusedVariables false
set_option maxRecDepth 100000
namespace Go.Proofs.Ytloambokbipnjaa
open Go Go.Fw
abbrev mti_bits.As : Shs := (.cons (.x (.l .b)) .nil)
abbrev mti_bits.m : Back := [(false, (.i .i64))]
noncomputable abbrev mti_bits.H : HK := hk P G0 E0 [] noLoops 4
theorem mti_bits.hok : HKOK P mti_bits.H := hk_ok e0_ok (rows_ok (ws := []) trivial) (fun g n => noLoops_ok g n) 4
abbrev mti_bits.sh4 : SSh := ⟨[(3, (.x (.i .i64))), (6, (.x (.l .b))), (7, (.x (.i .i64))), (8, (.x (.i .i64)))], []⟩
abbrev mti_bits.os4 : PEnds := [((.exit 0), ⟨[(3, (.x (.i .i64)))], []⟩)]
noncomputable def mti_bits.t4 (s : (Int × ((List Bool) × (Int × Int)))) : Option ((Int × ((List Bool) × (Int × Int))) ⊕ (Int)) := (bif (decide ((s.2.2.2 < s.2.2.1))) then (bif ((decide (((0 : Int) ≤ s.2.2.2))) && (decide ((s.2.2.2 < ((List.length s.2.1) : Int))))) then (bif (List.getD s.2.1 (Int.toNat s.2.2.2) false) then (bif (decide ((s.2.2.2 < (0 : Int)))) then none else (some (.inl ((bitsOp Go.BinOp.or Go.IntKind.i64 s.1 (IntKind.wrap .i64 ((1 : Int) * ((2 : Int) ^ (Min.min (Int.toNat s.2.2.2) 64))))), (s.2.1, (s.2.2.1, (IntKind.wrap .i64 (s.2.2.2 + (1 : Int))))))))) else (some (.inl (s.1, (s.2.1, (s.2.2.1, (IntKind.wrap .i64 (s.2.2.2 + (1 : Int))))))))) else none) else (some (.inr s.1)))
theorem mti_bits.t4_ok : ∀ s : Vals mti_bits.sh4.tys, turnK P mti_bits.H (lp []) (bodyAt (codeOf P 53) 4) 0 mti_bits.sh4 mti_bits.os4 s some = mti_bits.t4 s := fun s => by kernel_rfl
noncomputable def mti_bits.l4 : (Int × ((List Bool) × (Int × Int))) → Option (Int) := rounds mti_bits.t4
noncomputable def mti_bits.f (a : (List Bool)) : Option Int := (((mti_bits.l4 ((0 : Int), (a, (((List.length a) : Int), (0 : Int)))))).bind fun (x1 : Int) => (some x1))
theorem mti_bits.ok : ∀ a : Vals mti_bits.As.tys, fnK P mti_bits.H (lp [(4, NodeT.summ ⟨mti_bits.sh4, mti_bits.os4, mti_bits.l4⟩ 0)]) 53 mti_bits.As mti_bits.m a some = mti_bits.f a := fun a => by kernel_rfl
noncomputable abbrev mti_bits.row : Row := fnRow 53 mti_bits.As mti_bits.m mti_bits.f
theorem mti_bits.row_ok : RowOK P G0 mti_bits.row := row_told mti_bits.hok (lp_of (l := [(4, NodeT.summ ⟨mti_bits.sh4, mti_bits.os4, mti_bits.l4⟩ 0)]) ⟨loop_sum mti_bits.hok (by kernel_rfl) (by kernel_rfl) (l := []) trivial mti_bits.sh4 mti_bits.os4 (by kernel_rfl) mti_bits.t4 mti_bits.t4_ok, trivial⟩) (fun _ => rfl) mti_bits.ok
end Go.Proofs.Ytloambokbipnjaa
end
section
/- The Go function mti.text, as a Lean function, and that it is this one. Written by a program of this session. -/
set_option linter.unusedVariables false
set_option maxRecDepth 100000
namespace Go.Proofs.Ytloambokbipnjaa
open Go Go.Fw
abbrev mti_text.As : Shs := (.cons (.x T_api_Mti) .nil)
abbrev mti_text.m : Back := [(false, .s)]
noncomputable abbrev mti_text.H : HK := hk P G0 E0 [mti_bits.row] noLoops 4
theorem mti_text.hok : HKOK P mti_text.H := hk_ok e0_ok (rows_ok (ws := [mti_bits.row]) ⟨mti_bits.row_ok, trivial⟩) (fun g n => noLoops_ok g n) 4
noncomputable def mti_text.f (a : (Int × (Bool × (Bool × Bool)))) : Option ByteArray := (((mti_bits.f (a.2.2.1 :: (a.2.1 :: [])))).bind fun (x1 : Int) => (((mti_bits.f (a.2.2.2 :: []))).bind fun (x2 : Int) => (some (ByteArray.mk (List.toArray (List.map (fun y3 => (UInt8.ofNat (Int.toNat y3))) ((48 : Int) :: ((IntKind.wrap .u8 (IntKind.wrap .i64 ((48 : Int) + a.1))) :: ((IntKind.wrap .u8 (IntKind.wrap .i64 ((48 : Int) + x1))) :: ((IntKind.wrap .u8 (IntKind.wrap .i64 ((48 : Int) + x2))) :: []))))))))))
theorem mti_text.ok : ∀ a : Vals mti_text.As.tys, fnK P mti_text.H (lp []) 45 mti_text.As mti_text.m a some = mti_text.f a := fun a => by kernel_rfl
noncomputable abbrev mti_text.row : Row := fnRow 45 mti_text.As mti_text.m mti_text.f
theorem mti_text.row_ok : RowOK P G0 mti_text.row := row_told mti_text.hok (lp_of (l := []) trivial) (fun _ => rfl) mti_text.ok
end Go.Proofs.Ytloambokbipnjaa
end
section
/- The Go function mti.Text, as a Lean function, and that it is this one. Written by a program of this session. -/
set_option linter.unusedVariables false
set_option maxRecDepth 100000
namespace Go.Proofs.Ytloambokbipnjaa
open Go Go.Fw
abbrev mti_Text.As : Shs := (.cons (.x T_api_Mti) .nil)
abbrev mti_Text.m : Back := [(false, .s), (false, (.i .i64))]
noncomputable abbrev mti_Text.H : HK := hk P G0 E0 [mti_May.row, mti_text.row] noLoops 4
theorem mti_Text.hok : HKOK P mti_Text.H := hk_ok e0_ok (rows_ok (ws := [mti_May.row, mti_text.row]) ⟨mti_May.row_ok, ⟨mti_text.row_ok, trivial⟩⟩) (fun g n => noLoops_ok g n) 4
noncomputable def mti_Text.f (a : (Int × (Bool × (Bool × Bool)))) : Option (ByteArray × Int) := (((mti_May.f a)).bind fun (x1 : Bool) => (bif (!x1) then (some ((bs []), (1 : Int))) else (((mti_text.f a)).bind fun (x2 : ByteArray) => (some (x2, (0 : Int))))))
theorem mti_Text.ok : ∀ a : Vals mti_Text.As.tys, fnK P mti_Text.H (lp []) 21 mti_Text.As mti_Text.m a some = mti_Text.f a := fun a => by kernel_rfl
noncomputable abbrev mti_Text.row : Row := fnRow 21 mti_Text.As mti_Text.m mti_Text.f
theorem mti_Text.row_ok : RowOK P G0 mti_Text.row := row_told mti_Text.hok (lp_of (l := []) trivial) (fun _ => rfl) mti_Text.ok
end Go.Proofs.Ytloambokbipnjaa
end
section
/- The Go function mti.Parse, as a Lean function, and that it is this one. Written by a program of this session. -/
set_option linter.unusedVariables false
set_option maxRecDepth 100000
namespace Go.Proofs.Ytloambokbipnjaa
open Go Go.Fw
abbrev mti_Parse.As : Shs := (.cons (.x .s) .nil)
abbrev mti_Parse.m : Back := [(false, T_api_Mti), (false, (.i .i64))]
noncomputable abbrev mti_Parse.H : HK := hk P G0 E0 [mti_May.row, mti_text.row] noLoops 4
theorem mti_Parse.hok : HKOK P mti_Parse.H := hk_ok e0_ok (rows_ok (ws := [mti_May.row, mti_text.row]) ⟨mti_May.row_ok, ⟨mti_text.row_ok, trivial⟩⟩) (fun g n => noLoops_ok g n) 4
noncomputable def mti_Parse.f (a : ByteArray) : Option ((Int × (Bool × (Bool × Bool))) × Int) := (bif ((a.size : Int) != (4 : Int)) then (some (((0 : Int), (false, (false, false))), (17 : Int))) else (bif (true && (decide (((2 : Int) < (a.size : Int))))) then (bif (true && (decide (((1 : Int) < (a.size : Int))))) then (bif (true && (decide (((3 : Int) < (a.size : Int))))) then (((mti_May.f ((IntKind.wrap .i64 (IntKind.wrap .u8 ((bt a 1) - (48 : Int)))), (((bitsOp Go.BinOp.and Go.IntKind.u8 (IntKind.wrap .u8 ((bt a 2) - (48 : Int))) (2 : Int)) != (0 : Int)), (((bitsOp Go.BinOp.and Go.IntKind.u8 (IntKind.wrap .u8 ((bt a 2) - (48 : Int))) (1 : Int)) != (0 : Int)), ((bt a 3) == (49 : Int))))))).bind fun (x1 : Bool) => (bif (!x1) then (some (((0 : Int), (false, (false, false))), (17 : Int))) else (((mti_text.f ((IntKind.wrap .i64 (IntKind.wrap .u8 ((bt a 1) - (48 : Int)))), (((bitsOp Go.BinOp.and Go.IntKind.u8 (IntKind.wrap .u8 ((bt a 2) - (48 : Int))) (2 : Int)) != (0 : Int)), (((bitsOp Go.BinOp.and Go.IntKind.u8 (IntKind.wrap .u8 ((bt a 2) - (48 : Int))) (1 : Int)) != (0 : Int)), ((bt a 3) == (49 : Int))))))).bind fun (x2 : ByteArray) => (bif (!((ByteArray.toList x2) == (ByteArray.toList a))) then (some (((0 : Int), (false, (false, false))), (17 : Int))) else (some (((IntKind.wrap .i64 (IntKind.wrap .u8 ((bt a 1) - (48 : Int)))), (((bitsOp Go.BinOp.and Go.IntKind.u8 (IntKind.wrap .u8 ((bt a 2) - (48 : Int))) (2 : Int)) != (0 : Int)), (((bitsOp Go.BinOp.and Go.IntKind.u8 (IntKind.wrap .u8 ((bt a 2) - (48 : Int))) (1 : Int)) != (0 : Int)), ((bt a 3) == (49 : Int))))), (0 : Int))))))) else none) else none) else none))
theorem mti_Parse.ok : ∀ a : Vals mti_Parse.As.tys, fnK P mti_Parse.H (lp []) 24 mti_Parse.As mti_Parse.m a some = mti_Parse.f a := fun a => by kernel_rfl
noncomputable abbrev mti_Parse.row : Row := fnRow 24 mti_Parse.As mti_Parse.m mti_Parse.f
theorem mti_Parse.row_ok : RowOK P G0 mti_Parse.row := row_told mti_Parse.hok (lp_of (l := []) trivial) (fun _ => rfl) mti_Parse.ok
end Go.Proofs.Ytloambokbipnjaa
end
section
/- The Go function mti.First, as a Lean function, and that it is this one. Written by a program of this session. -/
set_option linter.unusedVariables false
set_option maxRecDepth 100000
namespace Go.Proofs.Ytloambokbipnjaa
open Go Go.Fw
abbrev mti_First.As : Shs := (.cons (.x T_api_Mti) .nil)
abbrev mti_First.m : Back := [(false, T_api_Mti), (false, (.i .i64))]
noncomputable abbrev mti_First.H : HK := hk P G0 E0 [mti_May.row] noLoops 4
theorem mti_First.hok : HKOK P mti_First.H := hk_ok e0_ok (rows_ok (ws := [mti_May.row]) ⟨mti_May.row_ok, trivial⟩) (fun g n => noLoops_ok g n) 4
noncomputable def mti_First.f (a : (Int × (Bool × (Bool × Bool)))) : Option ((Int × (Bool × (Bool × Bool))) × Int) := (((mti_May.f a)).bind fun (x1 : Bool) => (bif (!x1) then (some (((0 : Int), (false, (false, false))), (1 : Int))) else (some ((a.1, (a.2.1, (a.2.2.1, false))), (0 : Int)))))
theorem mti_First.ok : ∀ a : Vals mti_First.As.tys, fnK P mti_First.H (lp []) 30 mti_First.As mti_First.m a some = mti_First.f a := fun a => by kernel_rfl
noncomputable abbrev mti_First.row : Row := fnRow 30 mti_First.As mti_First.m mti_First.f
theorem mti_First.row_ok : RowOK P G0 mti_First.row := row_told mti_First.hok (lp_of (l := []) trivial) (fun _ => rfl) mti_First.ok
end Go.Proofs.Ytloambokbipnjaa
end
section
/- The Go function mti.Answer, as a Lean function, and that it is this one. Written by a program of this session. -/
set_option linter.unusedVariables false
set_option maxRecDepth 100000
namespace Go.Proofs.Ytloambokbipnjaa
open Go Go.Fw
abbrev mti_Answer.As : Shs := (.cons (.x T_api_Mti) .nil)
abbrev mti_Answer.m : Back := [(false, T_api_Mti), (false, (.i .i64))]
noncomputable abbrev mti_Answer.H : HK := hk P G0 E0 [mti_First.row] noLoops 4
theorem mti_Answer.hok : HKOK P mti_Answer.H := hk_ok e0_ok (rows_ok (ws := [mti_First.row]) ⟨mti_First.row_ok, trivial⟩) (fun g n => noLoops_ok g n) 4
noncomputable def mti_Answer.f (a : (Int × (Bool × (Bool × Bool)))) : Option ((Int × (Bool × (Bool × Bool))) × Int) := (((mti_First.f a)).bind fun (x1 : ((Int × (Bool × (Bool × Bool))) × Int)) => (bif (x1.2 != (0 : Int)) then (some (((0 : Int), (false, (false, false))), x1.2)) else (bif a.2.2.1 then (some (((0 : Int), (false, (false, false))), (17 : Int))) else (some ((x1.1.1, (x1.1.2.1, (true, x1.1.2.2.2))), (0 : Int))))))
theorem mti_Answer.ok : ∀ a : Vals mti_Answer.As.tys, fnK P mti_Answer.H (lp []) 29 mti_Answer.As mti_Answer.m a some = mti_Answer.f a := fun a => by kernel_rfl
noncomputable abbrev mti_Answer.row : Row := fnRow 29 mti_Answer.As mti_Answer.m mti_Answer.f
theorem mti_Answer.row_ok : RowOK P G0 mti_Answer.row := row_told mti_Answer.hok (lp_of (l := []) trivial) (fun _ => rfl) mti_Answer.ok
end Go.Proofs.Ytloambokbipnjaa
end
section
/- The Go function bursarref18.All, as a Lean function, and that it is this one. Written by a program of this session. -/
set_option linter.unusedVariables false
set_option maxRecDepth 100000
namespace Go.Proofs.Ytloambokbipnjaa
open Go Go.Fw
abbrev bursarref18_All.As : Shs := .nil
abbrev bursarref18_All.m : Back := [(false, (.l .s))]
noncomputable abbrev bursarref18_All.H : HK := hk P G0 E0 [] noLoops 4
theorem bursarref18_All.hok : HKOK P bursarref18_All.H := hk_ok e0_ok (rows_ok (ws := []) trivial) (fun g n => noLoops_ok g n) 4
noncomputable def bursarref18_All.f (a : Unit) : Option (List ByteArray) := (some ((bs [48, 49, 48, 48]) :: ((bs [48, 49, 48, 49]) :: ((bs [48, 49, 49, 48]) :: ((bs [48, 49, 50, 48]) :: ((bs [48, 49, 50, 49]) :: ((bs [48, 49, 51, 48]) :: ((bs [48, 50, 48, 48]) :: ((bs [48, 50, 48, 49]) :: ((bs [48, 50, 49, 48]) :: ((bs [48, 50, 50, 48]) :: ((bs [48, 50, 50, 49]) :: ((bs [48, 50, 51, 48]) :: ((bs [48, 52, 48, 48]) :: ((bs [48, 52, 48, 49]) :: ((bs [48, 52, 49, 48]) :: ((bs [48, 52, 50, 48]) :: ((bs [48, 52, 50, 49]) :: ((bs [48, 52, 51, 48]) :: ((bs [48, 53, 48, 48]) :: ((bs [48, 53, 48, 49]) :: ((bs [48, 53, 49, 48]) :: ((bs [48, 53, 50, 48]) :: ((bs [48, 53, 50, 49]) :: ((bs [48, 53, 51, 48]) :: ((bs [48, 54, 48, 48]) :: ((bs [48, 54, 48, 49]) :: ((bs [48, 54, 49, 48]) :: ((bs [48, 56, 48, 48]) :: ((bs [48, 56, 48, 49]) :: ((bs [48, 56, 49, 48]) :: [])))))))))))))))))))))))))))))))
theorem bursarref18_All.ok : ∀ a : Vals bursarref18_All.As.tys, fnK P bursarref18_All.H (lp []) 27 bursarref18_All.As bursarref18_All.m a some = bursarref18_All.f a := fun a => by kernel_rfl
noncomputable abbrev bursarref18_All.row : Row := fnRow 27 bursarref18_All.As bursarref18_All.m bursarref18_All.f
theorem bursarref18_All.row_ok : RowOK P G0 bursarref18_All.row := row_told bursarref18_All.hok (lp_of (l := []) trivial) (fun _ => rfl) bursarref18_All.ok
end Go.Proofs.Ytloambokbipnjaa
end
section
/- The Go function bursarref18.Parse, as a Lean function, and that it is this one. Written by a program of this session. -/
set_option linter.unusedVariables false
set_option maxRecDepth 100000
namespace Go.Proofs.Ytloambokbipnjaa
open Go Go.Fw
abbrev bursarref18_Parse.As : Shs := (.cons (.x .s) .nil)
abbrev bursarref18_Parse.m : Back := [(false, T_api_Mti), (false, .b)]
noncomputable abbrev bursarref18_Parse.H : HK := hk P G0 E0 [bursarref18_All.row] noLoops 4
theorem bursarref18_Parse.hok : HKOK P bursarref18_Parse.H := hk_ok e0_ok (rows_ok (ws := [bursarref18_All.row]) ⟨bursarref18_All.row_ok, trivial⟩) (fun g n => noLoops_ok g n) 4
abbrev bursarref18_Parse.sh4 : SSh := ⟨[(0, (.x .s)), (2, (.pt 0 0)), (4, (.x (.l .s))), (5, (.x (.i .i64)))], [.box (.cons (.x (.i .i64)) (.cons (.x .b) (.cons (.x .b) (.cons (.x .b) .nil))))]⟩
abbrev bursarref18_Parse.os4 : PEnds := [(.ret, ⟨[(2, (.pt 0 0)), (3, (.x .b))], [.box (.cons (.x (.i .i64)) (.cons (.x .b) (.cons (.x .b) (.cons (.x .b) .nil))))]⟩), ((.exit 0), ⟨[(2, (.pt 0 0))], [.box (.cons (.x (.i .i64)) (.cons (.x .b) (.cons (.x .b) (.cons (.x .b) .nil))))]⟩)]
noncomputable def bursarref18_Parse.t4 (s : (ByteArray × ((List ByteArray) × (Int × (Int × (Bool × (Bool × Bool))))))) : Option ((ByteArray × ((List ByteArray) × (Int × (Int × (Bool × (Bool × Bool)))))) ⊕ ((Bool × (Int × (Bool × (Bool × Bool)))) ⊕ (Int × (Bool × (Bool × Bool))))) := (bif (decide ((s.2.2.1 < ((List.length s.2.1) : Int)))) then (bif ((decide (((0 : Int) ≤ s.2.2.1))) && (decide ((s.2.2.1 < ((List.length s.2.1) : Int))))) then (bif ((ByteArray.toList (List.getD s.2.1 (Int.toNat s.2.2.1) (bs []))) == (ByteArray.toList s.1)) then (bif (true && (decide (((2 : Int) < (s.1.size : Int))))) then (bif (true && (decide (((1 : Int) < (s.1.size : Int))))) then (bif ((IntKind.wrap .u8 ((bt s.1 2) - (48 : Int))) == (1 : Int)) then (bif (true && (decide (((3 : Int) < (s.1.size : Int))))) then (some (.inr (.inl (true, ((IntKind.wrap .i64 ((IntKind.wrap .i64 (bt s.1 1)) - (48 : Int))), ((decide (((IntKind.wrap .u8 ((bt s.1 2) - (48 : Int))) ≥ (2 : Int)))), (true, ((bt s.1 3) == (49 : Int))))))))) else none) else (bif (true && (decide (((3 : Int) < (s.1.size : Int))))) then (some (.inr (.inl (true, ((IntKind.wrap .i64 ((IntKind.wrap .i64 (bt s.1 1)) - (48 : Int))), ((decide (((IntKind.wrap .u8 ((bt s.1 2) - (48 : Int))) ≥ (2 : Int)))), (((IntKind.wrap .u8 ((bt s.1 2) - (48 : Int))) == (3 : Int)), ((bt s.1 3) == (49 : Int))))))))) else none)) else none) else none) else (some (.inl (s.1, (s.2.1, ((IntKind.wrap .i64 (s.2.2.1 + (1 : Int))), s.2.2.2)))))) else none) else (some (.inr (.inr s.2.2.2))))
theorem bursarref18_Parse.t4_ok : ∀ s : Vals bursarref18_Parse.sh4.tys, turnK P bursarref18_Parse.H (lp []) (bodyAt (codeOf P 25) 4) 0 bursarref18_Parse.sh4 bursarref18_Parse.os4 s some = bursarref18_Parse.t4 s := fun s => by kernel_rfl
noncomputable def bursarref18_Parse.l4 : (ByteArray × ((List ByteArray) × (Int × (Int × (Bool × (Bool × Bool)))))) → Option ((Bool × (Int × (Bool × (Bool × Bool)))) ⊕ (Int × (Bool × (Bool × Bool)))) := rounds bursarref18_Parse.t4
noncomputable def bursarref18_Parse.f (a : ByteArray) : Option ((Int × (Bool × (Bool × Bool))) × Bool) := (((bursarref18_Parse.l4 (a, (((bs [48, 49, 48, 48]) :: ((bs [48, 49, 48, 49]) :: ((bs [48, 49, 49, 48]) :: ((bs [48, 49, 50, 48]) :: ((bs [48, 49, 50, 49]) :: ((bs [48, 49, 51, 48]) :: ((bs [48, 50, 48, 48]) :: ((bs [48, 50, 48, 49]) :: ((bs [48, 50, 49, 48]) :: ((bs [48, 50, 50, 48]) :: ((bs [48, 50, 50, 49]) :: ((bs [48, 50, 51, 48]) :: ((bs [48, 52, 48, 48]) :: ((bs [48, 52, 48, 49]) :: ((bs [48, 52, 49, 48]) :: ((bs [48, 52, 50, 48]) :: ((bs [48, 52, 50, 49]) :: ((bs [48, 52, 51, 48]) :: ((bs [48, 53, 48, 48]) :: ((bs [48, 53, 48, 49]) :: ((bs [48, 53, 49, 48]) :: ((bs [48, 53, 50, 48]) :: ((bs [48, 53, 50, 49]) :: ((bs [48, 53, 51, 48]) :: ((bs [48, 54, 48, 48]) :: ((bs [48, 54, 48, 49]) :: ((bs [48, 54, 49, 48]) :: ((bs [48, 56, 48, 48]) :: ((bs [48, 56, 48, 49]) :: ((bs [48, 56, 49, 48]) :: [])))))))))))))))))))))))))))))), ((0 : Int), ((0 : Int), (false, (false, false)))))))).bind fun (x1 : ((Bool × (Int × (Bool × (Bool × Bool)))) ⊕ (Int × (Bool × (Bool × Bool))))) => (match x1 with | .inl x2 => (some (x2.2, x2.1)) | .inr x2 => (some (((0 : Int), (false, (false, false))), false))))
theorem bursarref18_Parse.ok : ∀ a : Vals bursarref18_Parse.As.tys, fnK P bursarref18_Parse.H (lp [(4, NodeT.summ ⟨bursarref18_Parse.sh4, bursarref18_Parse.os4, bursarref18_Parse.l4⟩ 0)]) 25 bursarref18_Parse.As bursarref18_Parse.m a some = bursarref18_Parse.f a := fun a => by kernel_rfl
noncomputable abbrev bursarref18_Parse.row : Row := fnRow 25 bursarref18_Parse.As bursarref18_Parse.m bursarref18_Parse.f
theorem bursarref18_Parse.row_ok : RowOK P G0 bursarref18_Parse.row := row_told bursarref18_Parse.hok (lp_of (l := [(4, NodeT.summ ⟨bursarref18_Parse.sh4, bursarref18_Parse.os4, bursarref18_Parse.l4⟩ 0)]) ⟨loop_sum bursarref18_Parse.hok (by kernel_rfl) (by kernel_rfl) (l := []) trivial bursarref18_Parse.sh4 bursarref18_Parse.os4 (by kernel_rfl) bursarref18_Parse.t4 bursarref18_Parse.t4_ok, trivial⟩) (fun _ => rfl) bursarref18_Parse.ok
end Go.Proofs.Ytloambokbipnjaa
end
section
/- The Go function bursarref18.Text, as a Lean function, and that it is this one. Written by a program of this session. -/
set_option linter.unusedVariables false
set_option maxRecDepth 100000
namespace Go.Proofs.Ytloambokbipnjaa
open Go Go.Fw
abbrev bursarref18_Text.As : Shs := (.cons (.x T_api_Mti) .nil)
abbrev bursarref18_Text.m : Back := [(false, .s), (false, .b)]
noncomputable abbrev bursarref18_Text.H : HK := hk P G0 E0 [bursarref18_Parse.row, bursarref18_All.row] noLoops 4
theorem bursarref18_Text.hok : HKOK P bursarref18_Text.H := hk_ok e0_ok (rows_ok (ws := [bursarref18_Parse.row, bursarref18_All.row]) ⟨bursarref18_Parse.row_ok, ⟨bursarref18_All.row_ok, trivial⟩⟩) (fun g n => noLoops_ok g n) 4
abbrev bursarref18_Text.sh4 : SSh := ⟨[(1, (.pt 0 0)), (4, (.x (.l .s))), (5, (.x (.i .i64)))], [.box (.cons (.x (.i .i64)) (.cons (.x .b) (.cons (.x .b) (.cons (.x .b) .nil))))]⟩
abbrev bursarref18_Text.os4 : PEnds := [(.ret, ⟨[(2, (.x .s)), (3, (.x .b))], []⟩), ((.exit 0), ⟨[], []⟩)]
noncomputable def bursarref18_Text.t4 (s : ((List ByteArray) × (Int × (Int × (Bool × (Bool × Bool)))))) : Option (((List ByteArray) × (Int × (Int × (Bool × (Bool × Bool))))) ⊕ ((ByteArray × Bool) ⊕ Unit)) := (bif (decide ((s.2.1 < ((List.length s.1) : Int)))) then (bif ((decide (((0 : Int) ≤ s.2.1))) && (decide ((s.2.1 < ((List.length s.1) : Int))))) then (((bursarref18_Parse.f (List.getD s.1 (Int.toNat s.2.1) (bs [])))).bind fun (x6 : ((Int × (Bool × (Bool × Bool))) × Bool)) => (bif ((x6.1.1 == s.2.2.1) && ((x6.1.2.1 == s.2.2.2.1) && ((x6.1.2.2.1 == s.2.2.2.2.1) && ((x6.1.2.2.2 == s.2.2.2.2.2) && true)))) then (bif ((decide (((0 : Int) ≤ s.2.1))) && (decide ((s.2.1 < ((List.length s.1) : Int))))) then (some (.inr (.inl ((List.getD s.1 (Int.toNat s.2.1) (bs [])), true)))) else none) else (some (.inl (s.1, ((IntKind.wrap .i64 (s.2.1 + (1 : Int))), s.2.2)))))) else none) else (some (.inr (.inr ()))))
theorem bursarref18_Text.t4_ok : ∀ s : Vals bursarref18_Text.sh4.tys, turnK P bursarref18_Text.H (lp []) (bodyAt (codeOf P 22) 4) 0 bursarref18_Text.sh4 bursarref18_Text.os4 s some = bursarref18_Text.t4 s := fun s => by kernel_rfl
noncomputable def bursarref18_Text.l4 : ((List ByteArray) × (Int × (Int × (Bool × (Bool × Bool))))) → Option ((ByteArray × Bool) ⊕ Unit) := rounds bursarref18_Text.t4
noncomputable def bursarref18_Text.f (a : (Int × (Bool × (Bool × Bool)))) : Option (ByteArray × Bool) := (((bursarref18_Text.l4 (((bs [48, 49, 48, 48]) :: ((bs [48, 49, 48, 49]) :: ((bs [48, 49, 49, 48]) :: ((bs [48, 49, 50, 48]) :: ((bs [48, 49, 50, 49]) :: ((bs [48, 49, 51, 48]) :: ((bs [48, 50, 48, 48]) :: ((bs [48, 50, 48, 49]) :: ((bs [48, 50, 49, 48]) :: ((bs [48, 50, 50, 48]) :: ((bs [48, 50, 50, 49]) :: ((bs [48, 50, 51, 48]) :: ((bs [48, 52, 48, 48]) :: ((bs [48, 52, 48, 49]) :: ((bs [48, 52, 49, 48]) :: ((bs [48, 52, 50, 48]) :: ((bs [48, 52, 50, 49]) :: ((bs [48, 52, 51, 48]) :: ((bs [48, 53, 48, 48]) :: ((bs [48, 53, 48, 49]) :: ((bs [48, 53, 49, 48]) :: ((bs [48, 53, 50, 48]) :: ((bs [48, 53, 50, 49]) :: ((bs [48, 53, 51, 48]) :: ((bs [48, 54, 48, 48]) :: ((bs [48, 54, 48, 49]) :: ((bs [48, 54, 49, 48]) :: ((bs [48, 56, 48, 48]) :: ((bs [48, 56, 48, 49]) :: ((bs [48, 56, 49, 48]) :: [])))))))))))))))))))))))))))))), ((0 : Int), a)))).bind fun (x1 : ((ByteArray × Bool) ⊕ PUnit)) => (match x1 with | .inl x2 => (some x2) | .inr x2 => (some ((bs []), false))))
theorem bursarref18_Text.ok : ∀ a : Vals bursarref18_Text.As.tys, fnK P bursarref18_Text.H (lp [(4, NodeT.summ ⟨bursarref18_Text.sh4, bursarref18_Text.os4, bursarref18_Text.l4⟩ 0)]) 22 bursarref18_Text.As bursarref18_Text.m a some = bursarref18_Text.f a := fun a => by kernel_rfl
noncomputable abbrev bursarref18_Text.row : Row := fnRow 22 bursarref18_Text.As bursarref18_Text.m bursarref18_Text.f
theorem bursarref18_Text.row_ok : RowOK P G0 bursarref18_Text.row := row_told bursarref18_Text.hok (lp_of (l := [(4, NodeT.summ ⟨bursarref18_Text.sh4, bursarref18_Text.os4, bursarref18_Text.l4⟩ 0)]) ⟨loop_sum bursarref18_Text.hok (by kernel_rfl) (by kernel_rfl) (l := []) trivial bursarref18_Text.sh4 bursarref18_Text.os4 (by kernel_rfl) bursarref18_Text.t4 bursarref18_Text.t4_ok, trivial⟩) (fun _ => rfl) bursarref18_Text.ok
end Go.Proofs.Ytloambokbipnjaa
end
section
/- Messages' types: what the code and the document's answer compute. By this session. -/
set_option linter.unusedVariables false
set_option linter.unusedSimpArgs false
namespace Go.Proofs.Ytloambokbipnjaa
open Go Go.Fw
/-- a type of messages as the code has it: class, advice, answers, again -/
abbrev M := Int × (Bool × (Bool × Bool))
def mayM (m : M) : Bool := ((m.1 == 1 || m.1 == 2 || m.1 == 4 || m.1 == 5) || ((m.1 == 6 || m.1 == 8) && !m.2.1)) && (!m.2.2.1 || !m.2.2.2)
theorem May_is (m : M) : mti_May.f m = some (mayM m) := by
  obtain ⟨c, a, b, d⟩ := m
  simp only [mti_May.f, mayM]
  by_cases h1 : c = 1
  · subst h1; cases a <;> cases b <;> cases d <;> rfl
  by_cases h2 : c = 2
  · subst h2; cases a <;> cases b <;> cases d <;> rfl
  by_cases h4 : c = 4
  · subst h4; cases a <;> cases b <;> cases d <;> rfl
  by_cases h5 : c = 5
  · subst h5; cases a <;> cases b <;> cases d <;> rfl
  by_cases h6 : c = 6
  · subst h6; cases a <;> cases b <;> cases d <;> rfl
  by_cases h8 : c = 8
  · subst h8; cases a <;> cases b <;> cases d <;> rfl
  have e1 : (c == 1) = false := by simp [h1]
  have e2 : (c == 2) = false := by simp [h2]
  have e4 : (c == 4) = false := by simp [h4]
  have e5 : (c == 5) = false := by simp [h5]
  have e6 : (c == 6) = false := by simp [h6]
  have e8 : (c == 8) = false := by simp [h8]
  simp only [e1, e2, e4, e5, e6, e8]
  rfl
def bI (b : Bool) : Int := bif b then 1 else 0
theorem bits1 (a : Bool) : mti_bits.f [a] = some (bI a) := by
  unfold mti_bits.f mti_bits.l4
  have h1 : mti_bits.t4 (0, ([a], (((List.length [a] : Nat) : Int), 0))) = some (.inl (bI a, ([a], (((List.length [a] : Nat) : Int), 1)))) := by cases a <;> decide +kernel
  have h2 : mti_bits.t4 (bI a, ([a], (((List.length [a] : Nat) : Int), 1))) = some (.inr (bI a)) := by cases a <;> decide +kernel
  rw [rounds_next h1, rounds_end h2]; rfl
theorem bits2 (a b : Bool) : mti_bits.f [a, b] = some (bI a + 2 * bI b) := by
  unfold mti_bits.f mti_bits.l4
  have h1 : mti_bits.t4 (0, ([a, b], (((List.length [a, b] : Nat) : Int), 0))) = some (.inl (bI a, ([a, b], (((List.length [a, b] : Nat) : Int), 1)))) := by cases a <;> cases b <;> decide +kernel
  have h2 : mti_bits.t4 (bI a, ([a, b], (((List.length [a, b] : Nat) : Int), 1))) = some (.inl (bI a + 2 * bI b, ([a, b], (((List.length [a, b] : Nat) : Int), 2)))) := by cases a <;> cases b <;> decide +kernel
  have h3 : mti_bits.t4 (bI a + 2 * bI b, ([a, b], (((List.length [a, b] : Nat) : Int), 2))) = some (.inr (bI a + 2 * bI b)) := by cases a <;> cases b <;> decide +kernel
  rw [rounds_next h1, rounds_next h2, rounds_end h3]; rfl
/-- the digits of a type -/
def textM (m : M) : ByteArray := ByteArray.mk (List.toArray (List.map (fun y => UInt8.ofNat (Int.toNat y)) [48, IntKind.wrap .u8 (IntKind.wrap .i64 (48 + m.1)), IntKind.wrap .u8 (IntKind.wrap .i64 (48 + (bI m.2.2.1 + 2 * bI m.2.1))), IntKind.wrap .u8 (IntKind.wrap .i64 (48 + bI m.2.2.2))]))
theorem text_M (m : M) : mti_text.f m = some (textM m) := by
  unfold mti_text.f
  rw [bits2, bits1]; rfl
theorem Text_is (m : M) : mti_Text.f m = some (bif mayM m then (textM m, 0) else (bs [], 1)) := by
  unfold mti_Text.f
  rw [May_is]
  cases mayM m with
  | false => rfl
  | true => simp only [Option.bind_some, Bool.not_true, cond_false, text_M]; rfl
theorem First_is (m : M) : mti_First.f m = some (bif mayM m then ((m.1, (m.2.1, (m.2.2.1, false))), 0) else ((0, (false, (false, false))), 1)) := by
  unfold mti_First.f
  rw [May_is]
  cases mayM m <;> rfl
theorem Answer_is (m : M) : mti_Answer.f m = some (bif mayM m then (bif m.2.2.1 then ((0, (false, (false, false))), 17) else ((m.1, (m.2.1, (true, false))), 0)) else ((0, (false, (false, false))), 1)) := by
  unfold mti_Answer.f
  rw [First_is]
  cases mayM m with
  | false => rfl
  | true => cases m.2.2.1 <;> rfl
end Go.Proofs.Ytloambokbipnjaa
end
section
/- All types of messages, and whose digits any text is: what the code and the document's answer compute. By this session. -/
set_option linter.unusedVariables false
set_option linter.unusedSimpArgs false
namespace Go.Proofs.Ytloambokbipnjaa
open Go Go.Fw
theorem texts_eq (x y : ByteArray) : (ByteArray.toList x == ByteArray.toList y) = decide (x = y) := by
  rw [ByteArray.toList_eq, ByteArray.toList_eq, Bool.eq_iff_iff, beq_iff_eq, decide_eq_true_iff]
  constructor
  · intro h
    cases x; cases y
    simp only [Array.toList_inj] at h
    rw [h]
  · intro h; rw [h]
def allT : List ByteArray := [bs [48, 49, 48, 48], bs [48, 49, 48, 49], bs [48, 49, 49, 48], bs [48, 49, 50, 48], bs [48, 49, 50, 49], bs [48, 49, 51, 48], bs [48, 50, 48, 48], bs [48, 50, 48, 49], bs [48, 50, 49, 48], bs [48, 50, 50, 48], bs [48, 50, 50, 49], bs [48, 50, 51, 48], bs [48, 52, 48, 48], bs [48, 52, 48, 49], bs [48, 52, 49, 48], bs [48, 52, 50, 48], bs [48, 52, 50, 49], bs [48, 52, 51, 48], bs [48, 53, 48, 48], bs [48, 53, 48, 49], bs [48, 53, 49, 48], bs [48, 53, 50, 48], bs [48, 53, 50, 49], bs [48, 53, 51, 48], bs [48, 54, 48, 48], bs [48, 54, 48, 49], bs [48, 54, 49, 48], bs [48, 56, 48, 48], bs [48, 56, 48, 49], bs [48, 56, 49, 48]]
def allM : List M := [(1, (false, (false, false))), (1, (false, (false, true))), (1, (false, (true, false))), (1, (true, (false, false))), (1, (true, (false, true))), (1, (true, (true, false))), (2, (false, (false, false))), (2, (false, (false, true))), (2, (false, (true, false))), (2, (true, (false, false))), (2, (true, (false, true))), (2, (true, (true, false))), (4, (false, (false, false))), (4, (false, (false, true))), (4, (false, (true, false))), (4, (true, (false, false))), (4, (true, (false, true))), (4, (true, (true, false))), (5, (false, (false, false))), (5, (false, (false, true))), (5, (false, (true, false))), (5, (true, (false, false))), (5, (true, (false, true))), (5, (true, (true, false))), (6, (false, (false, false))), (6, (false, (false, true))), (6, (false, (true, false))), (8, (false, (false, false))), (8, (false, (false, true))), (8, (false, (true, false)))]
def m0 : M := (0, (false, (false, false)))
def tAt (i : Nat) : ByteArray := allT.getD i (bs [])
def mAt (i : Nat) : M := allM.getD i m0
/-- the first of them -/
def firstI (p : Nat → Bool) : Option Nat := (List.range 30).find? p
theorem firstI_some {p : Nat → Bool} {i : Nat} (h : firstI p = some i) : i < 30 ∧ p i = true := by
  unfold firstI at h
  exact ⟨List.mem_range.1 (List.mem_of_find?_eq_some h), List.find?_some h⟩
theorem firstI_none {p : Nat → Bool} (h : firstI p = none) : ∀ i, i < 30 → p i = false := by
  unfold firstI at h
  intro i hi
  have := List.find?_eq_none.1 h i (List.mem_range.2 hi)
  simpa using this
theorem rounds_find {S R : Type} {t : S → Option (S ⊕ R)} (st : Nat → S) (p : Nat → Bool) (out : Nat → R) (fin : R) (h : ∀ i, i < 30 → p i = false → t (st i) = some (.inl (st (i + 1)))) (hp : ∀ i, i < 30 → p i = true → t (st i) = some (.inr (out i))) (hf : t (st 30) = some (.inr fin)) :
    rounds t (st 0) = some (match firstI p with | some i => out i | none => fin) := by
  have go : ∀ k, k ≤ 30 → rounds t (st 0) = match (List.range k).find? p with | some i => some (out i) | none => rounds t (st k) := by
    intro k
    induction k with
    | zero => intro _; rfl
    | succ k ih =>
      intro hk
      rw [ih (by omega), List.range_succ, List.find?_append]
      cases (List.range k).find? p with
      | some i => rfl
      | none =>
        cases hx : p k with
        | false => simp [hx, rounds_next (h k (by omega) hx)]
        | true => simp [hx, rounds_end (hp k (by omega) hx)]
  rw [go 30 (Nat.le_refl _), rounds_end hf]
  unfold firstI
  cases (List.range 30).find? p <;> rfl
theorem text_at : ∀ i, i < 30 → textM (mAt i) = tAt i := by decide +kernel
theorem may_at : ∀ i, i < 30 → mayM (mAt i) = true := by decide +kernel
theorem may_in (m : M) (h : mayM m = true) : ∃ i, i < 30 ∧ mAt i = m := by
  obtain ⟨c, a, b, d⟩ := m
  have hc : c = 1 ∨ c = 2 ∨ c = 4 ∨ c = 5 ∨ c = 6 ∨ c = 8 := by
    simp only [mayM, Bool.and_eq_true, Bool.or_eq_true, beq_iff_eq] at h
    omega
  rcases hc with rfl | rfl | rfl | rfl | rfl | rfl <;> cases a <;> cases b <;> cases d <;> first | (cases h; done) | decide +kernel
/-! ### the document's answer -/
theorem ref_hit : ∀ i, i < 30 → bursarref18_Parse.t4 (tAt i, (allT, ((i : Int), m0))) = some (.inr (.inl (true, mAt i))) := by
  have h : ∀ i, i < 30 → (match bursarref18_Parse.t4 (tAt i, (allT, ((i : Int), m0))) with
    | some (.inr (.inl x)) => decide (x = (true, mAt i))
    | _ => false) = true := by decide +kernel
  intro i hi
  have h := h i hi
  split at h
  · rename_i x hx
    rw [hx, of_decide_eq_true h]
  · cases h
def whose (s : ByteArray) : Option Nat := firstI fun i => decide (tAt i = s)
theorem ref_Parse_is (s : ByteArray) : bursarref18_Parse.f s = some (match whose s with | some i => (mAt i, true) | none => (m0, false)) := by
  have h := rounds_find (t := bursarref18_Parse.t4) (fun i => (s, (allT, ((i : Int), m0)))) (fun i => decide (tAt i = s)) (fun i => .inl (true, mAt i)) (.inr m0) (fun i hi hp => by
    have d1 : decide ((i : Int) < ((List.length allT : Nat) : Int)) = true := decide_eq_true (by show (i : Int) < 30; omega)
    have d2 : decide ((0 : Int) ≤ (i : Int)) = true := decide_eq_true (by omega)
    have w := wrap_up (n := i) (by omega)
    have e : (ByteArray.toList (List.getD allT i (bs [])) == ByteArray.toList s) = false := by rw [texts_eq]; exact hp
    simp only [bursarref18_Parse.t4, d1, d2, Int.toNat_natCast, e, w, Bool.and_self, cond_true, cond_false]) (fun i hi hp => by
    have e : tAt i = s := of_decide_eq_true hp
    subst e
    exact ref_hit i hi) (by rfl)
  unfold bursarref18_Parse.f bursarref18_Parse.l4
  refine (congrArg (fun x => Option.bind x _) h).trans ?_
  unfold whose
  cases firstI fun i => decide (tAt i = s) <;> rfl
theorem whose_at : ∀ i, i < 30 → whose (tAt i) = some i := by decide +kernel
def index (m : M) : Option Nat := firstI fun i => decide (mAt i = m)
theorem ref_Text_is (m : M) : bursarref18_Text.f m = some (bif mayM m then (textM m, true) else (bs [], false)) := by
  have same : ∀ i, ((mAt i).1 == m.1 && ((mAt i).2.1 == m.2.1 && ((mAt i).2.2.1 == m.2.2.1 && ((mAt i).2.2.2 == m.2.2.2 && true)))) = decide (mAt i = m) := by
    intro i
    obtain ⟨c, a, b, d⟩ := m
    obtain ⟨c', a', b', d'⟩ := mAt i
    rw [Bool.eq_iff_iff]
    simp
  have h := rounds_find (t := bursarref18_Text.t4) (fun i => (allT, ((i : Int), m))) (fun i => decide (mAt i = m)) (fun i => .inl (tAt i, true)) (.inr ()) (fun i hi hp => by
    have d1 : decide ((i : Int) < ((List.length allT : Nat) : Int)) = true := decide_eq_true (by show (i : Int) < 30; omega)
    have d2 : decide ((0 : Int) ≤ (i : Int)) = true := decide_eq_true (by omega)
    have w := wrap_up (n := i) (by omega)
    have e : bursarref18_Parse.f (List.getD allT i (bs [])) = some (mAt i, true) := by
      have := ref_Parse_is (tAt i)
      rw [whose_at i hi] at this
      exact this
    simp only [bursarref18_Text.t4, d1, d2, Int.toNat_natCast, e, w, Bool.and_self, cond_true, Option.bind_some, same, hp, cond_false]) (fun i hi hp => by
    have d1 : decide ((i : Int) < ((List.length allT : Nat) : Int)) = true := decide_eq_true (by show (i : Int) < 30; omega)
    have d2 : decide ((0 : Int) ≤ (i : Int)) = true := decide_eq_true (by omega)
    have e : bursarref18_Parse.f (List.getD allT i (bs [])) = some (mAt i, true) := by
      have := ref_Parse_is (tAt i)
      rw [whose_at i hi] at this
      exact this
    simp only [bursarref18_Text.t4, d1, d2, Int.toNat_natCast, e, Bool.and_self, cond_true, Option.bind_some, same, hp]
    rfl) (by rfl)
  unfold bursarref18_Text.f bursarref18_Text.l4
  refine (congrArg (fun x => Option.bind x _) h).trans ?_
  cases hx : firstI fun i => decide (mAt i = m) with
  | some i =>
    obtain ⟨hi, hp⟩ := firstI_some hx
    have e : mAt i = m := of_decide_eq_true hp
    have hm := may_at i hi
    have ht := text_at i hi
    rw [e] at hm ht
    rw [hm, ht]; rfl
  | none =>
    have hn := firstI_none hx
    cases hm : mayM m with
    | false => rfl
    | true =>
      obtain ⟨i, hi, e⟩ := may_in m hm
      have := hn i hi
      simp [e] at this
/-! ### the code -/
def decM (s : ByteArray) : M := (IntKind.wrap .i64 (IntKind.wrap .u8 (bt s 1 - 48)), ((bitsOp .and .u8 (IntKind.wrap .u8 (bt s 2 - 48)) 2 != 0), ((bitsOp .and .u8 (IntKind.wrap .u8 (bt s 2 - 48)) 1 != 0), (bt s 3 == 49))))
theorem dec_at : ∀ i, i < 30 → (tAt i).size = 4 ∧ decM (tAt i) = mAt i := by decide +kernel
theorem Parse_is (s : ByteArray) : mti_Parse.f s = some (match whose s with | some i => (mAt i, 0) | none => (m0, 17)) := by
  have key : mti_Parse.f s = bif decide (s.size = 4) then (bif mayM (decM s) && decide (textM (decM s) = s) then some (decM s, 0) else some (m0, 17)) else some (m0, 17) := by
    unfold mti_Parse.f
    by_cases h4 : s.size = 4
    · have d0 : ((s.size : Int) != 4) = false := by simp; omega
      have d1 : decide ((1 : Int) < (s.size : Int)) = true := decide_eq_true (by omega)
      have d2 : decide ((2 : Int) < (s.size : Int)) = true := decide_eq_true (by omega)
      have d3 : decide ((3 : Int) < (s.size : Int)) = true := decide_eq_true (by omega)
      have em : mti_May.f (decM s) = some (mayM (decM s)) := May_is _
      have et : mti_text.f (decM s) = some (textM (decM s)) := text_M _
      unfold decM at em et
      simp only [d0, d1, d2, d3, em, et, decide_eq_true h4, texts_eq, Bool.and_self, cond_true, cond_false, Option.bind_some]
      unfold decM m0
      cases mayM _ with
      | false => rfl
      | true =>
        simp only [Bool.not_true, cond_false, Bool.true_and]
        cases decide (textM _ = s) <;> rfl
    · have d0 : ((s.size : Int) != 4) = true := by simp; omega
      rw [d0, decide_eq_false h4]; rfl
  rw [key]
  cases hx : whose s with
  | some i =>
    obtain ⟨hi, hp⟩ := firstI_some hx
    have e : tAt i = s := of_decide_eq_true hp
    subst e
    obtain ⟨h4, hd⟩ := dec_at i hi
    rw [decide_eq_true h4, hd, may_at i hi, text_at i hi, decide_eq_true rfl]; rfl
  | none =>
    have hn := firstI_none hx
    cases decide (s.size = 4) with
    | false => rfl
    | true =>
      cases hm : mayM (decM s) with
      | false => rfl
      | true =>
        obtain ⟨i, hi, e⟩ := may_in _ hm
        have ht := text_at i hi
        have h1 := hn i hi
        have : decide (textM (decM s) = s) = false := by
          rw [← e, ht]; exact h1
        rw [this]; rfl
end Go.Proofs.Ytloambokbipnjaa
end
section
/- The Go function mti.All, as a Lean function, and that it is this one. Written by a program of this session. -/
set_option linter.unusedVariables false
set_option maxRecDepth 100000
namespace Go.Proofs.Ytloambokbipnjaa
open Go Go.Fw
abbrev mti_All.row : Row := closedRow 26 (.sl 1 (.t .s [bs [48, 49, 48, 48], bs [48, 49, 48, 49], bs [48, 49, 49, 48], bs [48, 49, 50, 48], bs [48, 49, 50, 49], bs [48, 49, 51, 48], bs [48, 50, 48, 48], bs [48, 50, 48, 49], bs [48, 50, 49, 48], bs [48, 50, 50, 48], bs [48, 50, 50, 49], bs [48, 50, 51, 48], bs [48, 52, 48, 48], bs [48, 52, 48, 49], bs [48, 52, 49, 48], bs [48, 52, 50, 48], bs [48, 52, 50, 49], bs [48, 52, 51, 48], bs [48, 53, 48, 48], bs [48, 53, 48, 49], bs [48, 53, 49, 48], bs [48, 53, 50, 48], bs [48, 53, 50, 49], bs [48, 53, 51, 48], bs [48, 54, 48, 48], bs [48, 54, 48, 49], bs [48, 54, 49, 48], bs [48, 56, 48, 48], bs [48, 56, 48, 49], bs [48, 56, 49, 48]]))
theorem mti_All.row_ok : RowOK P G0 mti_All.row := closed_ok e0_ok 60 (by kernel_rfl)
end Go.Proofs.Ytloambokbipnjaa
end
section
/- The Go function bursarlaw18.awake, as a Lean function, and that it is this one. Written by a program of this session. -/
set_option linter.unusedVariables false
set_option maxRecDepth 100000
namespace Go.Proofs.Ytloambokbipnjaa
open Go Go.Fw
abbrev bursarlaw18_awake.row : Row := closedRow 28 (.b true)
theorem bursarlaw18_awake.row_ok : RowOK P G0 bursarlaw18_awake.row := closed_ok e0_ok 60 (by kernel_rfl)
end Go.Proofs.Ytloambokbipnjaa
end
section
/- The Go function bursarlaw18.MtiKinds, as a Lean function, and that it is this one. Written by a program of this session. -/
set_option linter.unusedVariables false
set_option maxRecDepth 100000
namespace Go.Proofs.Ytloambokbipnjaa
open Go Go.Fw
abbrev bursarlaw18_MtiKinds.As : Shs := (.cons (.x (.i .i64)) .nil)
abbrev bursarlaw18_MtiKinds.m : Back := [(false, .b)]
noncomputable abbrev bursarlaw18_MtiKinds.H : HK := hk P G0 E0 [mti_Parse.row, mti_All.row, bursarlaw18_awake.row, mti_Answer.row] noLoops 4
theorem bursarlaw18_MtiKinds.hok : HKOK P bursarlaw18_MtiKinds.H := hk_ok e0_ok (rows_ok (ws := [mti_Parse.row, mti_All.row, bursarlaw18_awake.row, mti_Answer.row]) ⟨mti_Parse.row_ok, ⟨mti_All.row_ok, ⟨bursarlaw18_awake.row_ok, ⟨mti_Answer.row_ok, trivial⟩⟩⟩⟩) (fun g n => noLoops_ok g n) 4
abbrev bursarlaw18_MtiKinds.sh5 : SSh := ⟨[(0, (.x (.i .i64))), (3, (.x (.l .s))), (4, (.x (.i .i64))), (5, (.x (.i .i64))), (6, (.x (.i .i64)))], []⟩
abbrev bursarlaw18_MtiKinds.os5 : PEnds := [(.ret, ⟨[(2, (.x .b))], []⟩), ((.exit 0), ⟨[(0, (.x (.i .i64))), (4, (.x (.i .i64))), (5, (.x (.i .i64)))], []⟩)]
noncomputable def bursarlaw18_MtiKinds.t5 (s : (Int × ((List ByteArray) × (Int × (Int × Int))))) : Option ((Int × ((List ByteArray) × (Int × (Int × Int)))) ⊕ (Bool ⊕ (Int × (Int × Int)))) := (bif (decide ((s.2.2.2.2 < ((List.length s.2.1) : Int)))) then (bif ((decide (((0 : Int) ≤ s.2.2.2.2))) && (decide ((s.2.2.2.2 < ((List.length s.2.1) : Int))))) then (((mti_Parse.f (List.getD s.2.1 (Int.toNat s.2.2.2.2) (bs [])))).bind fun (x5 : ((Int × (Bool × (Bool × Bool))) × Int)) => (bif (x5.2 != (0 : Int)) then (some (.inr (.inl false))) else (bif (x5.1.1 != s.1) then (some (.inl (s.1, (s.2.1, (s.2.2.1, (s.2.2.2.1, (IntKind.wrap .i64 (s.2.2.2.2 + (1 : Int))))))))) else (((mti_Answer.f x5.1)).bind fun (x6 : ((Int × (Bool × (Bool × Bool))) × Int)) => (bif (!(x5.1.2.2.1 == (x6.2 != (0 : Int)))) then (some (.inr (.inl false))) else (bif (x6.2 == (0 : Int)) then (bif (!x6.1.2.2.1) then (some (.inr (.inl false))) else (bif (!(x6.1.2.1 == x5.1.2.1)) then (some (.inr (.inl false))) else (bif (x6.1.1 != s.1) then (some (.inr (.inl false))) else (bif (x6.2 == (0 : Int)) then (some (.inl (s.1, (s.2.1, ((IntKind.wrap .i64 (s.2.2.1 + (1 : Int))), ((IntKind.wrap .i64 (s.2.2.2.1 + (1 : Int))), (IntKind.wrap .i64 (s.2.2.2.2 + (1 : Int))))))))) else (some (.inl (s.1, (s.2.1, ((IntKind.wrap .i64 (s.2.2.1 + (1 : Int))), (s.2.2.2.1, (IntKind.wrap .i64 (s.2.2.2.2 + (1 : Int))))))))))))) else (bif (x6.2 == (0 : Int)) then (some (.inl (s.1, (s.2.1, ((IntKind.wrap .i64 (s.2.2.1 + (1 : Int))), ((IntKind.wrap .i64 (s.2.2.2.1 + (1 : Int))), (IntKind.wrap .i64 (s.2.2.2.2 + (1 : Int))))))))) else (some (.inl (s.1, (s.2.1, ((IntKind.wrap .i64 (s.2.2.1 + (1 : Int))), (s.2.2.2.1, (IntKind.wrap .i64 (s.2.2.2.2 + (1 : Int)))))))))))))))) else none) else (some (.inr (.inr (s.1, (s.2.2.1, s.2.2.2.1))))))
theorem bursarlaw18_MtiKinds.t5_ok : ∀ s : Vals bursarlaw18_MtiKinds.sh5.tys, turnK P bursarlaw18_MtiKinds.H (lp []) (bodyAt (codeOf P 8) 5) 0 bursarlaw18_MtiKinds.sh5 bursarlaw18_MtiKinds.os5 s some = bursarlaw18_MtiKinds.t5 s := fun s => by kernel_rfl
noncomputable def bursarlaw18_MtiKinds.l5 : (Int × ((List ByteArray) × (Int × (Int × Int)))) → Option (Bool ⊕ (Int × (Int × Int))) := rounds bursarlaw18_MtiKinds.t5
noncomputable def bursarlaw18_MtiKinds.f (a : Int) : Option Bool := (((bursarlaw18_MtiKinds.l5 (a, (((bs [48, 49, 48, 48]) :: ((bs [48, 49, 48, 49]) :: ((bs [48, 49, 49, 48]) :: ((bs [48, 49, 50, 48]) :: ((bs [48, 49, 50, 49]) :: ((bs [48, 49, 51, 48]) :: ((bs [48, 50, 48, 48]) :: ((bs [48, 50, 48, 49]) :: ((bs [48, 50, 49, 48]) :: ((bs [48, 50, 50, 48]) :: ((bs [48, 50, 50, 49]) :: ((bs [48, 50, 51, 48]) :: ((bs [48, 52, 48, 48]) :: ((bs [48, 52, 48, 49]) :: ((bs [48, 52, 49, 48]) :: ((bs [48, 52, 50, 48]) :: ((bs [48, 52, 50, 49]) :: ((bs [48, 52, 51, 48]) :: ((bs [48, 53, 48, 48]) :: ((bs [48, 53, 48, 49]) :: ((bs [48, 53, 49, 48]) :: ((bs [48, 53, 50, 48]) :: ((bs [48, 53, 50, 49]) :: ((bs [48, 53, 51, 48]) :: ((bs [48, 54, 48, 48]) :: ((bs [48, 54, 48, 49]) :: ((bs [48, 54, 49, 48]) :: ((bs [48, 56, 48, 48]) :: ((bs [48, 56, 48, 49]) :: ((bs [48, 56, 49, 48]) :: [])))))))))))))))))))))))))))))), ((0 : Int), ((0 : Int), (0 : Int))))))).bind fun (x1 : (Bool ⊕ (Int × (Int × Int)))) => (match x1 with | .inl x2 => (some x2) | .inr x2 => (bif (x2.1 == (1 : Int)) then (bif (x2.1 == (1 : Int)) then (bif (x2.2.1 == (6 : Int)) then (bif (x2.2.2 == (IntKind.wrap .i64 (Int.tdiv (IntKind.wrap .i64 (x2.2.1 * (2 : Int))) (3 : Int)))) then (some true) else (some false)) else (some false)) else (bif (x2.1 == (6 : Int)) then (bif (x2.1 == (6 : Int)) then (bif (x2.2.1 == (3 : Int)) then (bif (x2.2.2 == (IntKind.wrap .i64 (Int.tdiv (IntKind.wrap .i64 (x2.2.1 * (2 : Int))) (3 : Int)))) then (some true) else (some false)) else (some false)) else (bif (x2.2.1 == (0 : Int)) then (bif (x2.2.2 == (IntKind.wrap .i64 (Int.tdiv (IntKind.wrap .i64 (x2.2.1 * (2 : Int))) (3 : Int)))) then (some true) else (some false)) else (some false))) else (bif (x2.1 == (8 : Int)) then (bif (x2.2.1 == (3 : Int)) then (bif (x2.2.2 == (IntKind.wrap .i64 (Int.tdiv (IntKind.wrap .i64 (x2.2.1 * (2 : Int))) (3 : Int)))) then (some true) else (some false)) else (some false)) else (bif (x2.2.1 == (0 : Int)) then (bif (x2.2.2 == (IntKind.wrap .i64 (Int.tdiv (IntKind.wrap .i64 (x2.2.1 * (2 : Int))) (3 : Int)))) then (some true) else (some false)) else (some false))))) else (bif (x2.1 == (2 : Int)) then (bif (x2.1 == (2 : Int)) then (bif (x2.2.1 == (6 : Int)) then (bif (x2.2.2 == (IntKind.wrap .i64 (Int.tdiv (IntKind.wrap .i64 (x2.2.1 * (2 : Int))) (3 : Int)))) then (some true) else (some false)) else (some false)) else (bif (x2.1 == (6 : Int)) then (bif (x2.1 == (6 : Int)) then (bif (x2.2.1 == (3 : Int)) then (bif (x2.2.2 == (IntKind.wrap .i64 (Int.tdiv (IntKind.wrap .i64 (x2.2.1 * (2 : Int))) (3 : Int)))) then (some true) else (some false)) else (some false)) else (bif (x2.2.1 == (0 : Int)) then (bif (x2.2.2 == (IntKind.wrap .i64 (Int.tdiv (IntKind.wrap .i64 (x2.2.1 * (2 : Int))) (3 : Int)))) then (some true) else (some false)) else (some false))) else (bif (x2.1 == (8 : Int)) then (bif (x2.2.1 == (3 : Int)) then (bif (x2.2.2 == (IntKind.wrap .i64 (Int.tdiv (IntKind.wrap .i64 (x2.2.1 * (2 : Int))) (3 : Int)))) then (some true) else (some false)) else (some false)) else (bif (x2.2.1 == (0 : Int)) then (bif (x2.2.2 == (IntKind.wrap .i64 (Int.tdiv (IntKind.wrap .i64 (x2.2.1 * (2 : Int))) (3 : Int)))) then (some true) else (some false)) else (some false))))) else (bif (x2.1 == (4 : Int)) then (bif (x2.1 == (4 : Int)) then (bif (x2.2.1 == (6 : Int)) then (bif (x2.2.2 == (IntKind.wrap .i64 (Int.tdiv (IntKind.wrap .i64 (x2.2.1 * (2 : Int))) (3 : Int)))) then (some true) else (some false)) else (some false)) else (bif (x2.1 == (6 : Int)) then (bif (x2.1 == (6 : Int)) then (bif (x2.2.1 == (3 : Int)) then (bif (x2.2.2 == (IntKind.wrap .i64 (Int.tdiv (IntKind.wrap .i64 (x2.2.1 * (2 : Int))) (3 : Int)))) then (some true) else (some false)) else (some false)) else (bif (x2.2.1 == (0 : Int)) then (bif (x2.2.2 == (IntKind.wrap .i64 (Int.tdiv (IntKind.wrap .i64 (x2.2.1 * (2 : Int))) (3 : Int)))) then (some true) else (some false)) else (some false))) else (bif (x2.1 == (8 : Int)) then (bif (x2.2.1 == (3 : Int)) then (bif (x2.2.2 == (IntKind.wrap .i64 (Int.tdiv (IntKind.wrap .i64 (x2.2.1 * (2 : Int))) (3 : Int)))) then (some true) else (some false)) else (some false)) else (bif (x2.2.1 == (0 : Int)) then (bif (x2.2.2 == (IntKind.wrap .i64 (Int.tdiv (IntKind.wrap .i64 (x2.2.1 * (2 : Int))) (3 : Int)))) then (some true) else (some false)) else (some false))))) else (bif (x2.1 == (5 : Int)) then (bif (x2.2.1 == (6 : Int)) then (bif (x2.2.2 == (IntKind.wrap .i64 (Int.tdiv (IntKind.wrap .i64 (x2.2.1 * (2 : Int))) (3 : Int)))) then (some true) else (some false)) else (some false)) else (bif (x2.1 == (6 : Int)) then (bif (x2.1 == (6 : Int)) then (bif (x2.2.1 == (3 : Int)) then (bif (x2.2.2 == (IntKind.wrap .i64 (Int.tdiv (IntKind.wrap .i64 (x2.2.1 * (2 : Int))) (3 : Int)))) then (some true) else (some false)) else (some false)) else (bif (x2.2.1 == (0 : Int)) then (bif (x2.2.2 == (IntKind.wrap .i64 (Int.tdiv (IntKind.wrap .i64 (x2.2.1 * (2 : Int))) (3 : Int)))) then (some true) else (some false)) else (some false))) else (bif (x2.1 == (8 : Int)) then (bif (x2.2.1 == (3 : Int)) then (bif (x2.2.2 == (IntKind.wrap .i64 (Int.tdiv (IntKind.wrap .i64 (x2.2.1 * (2 : Int))) (3 : Int)))) then (some true) else (some false)) else (some false)) else (bif (x2.2.1 == (0 : Int)) then (bif (x2.2.2 == (IntKind.wrap .i64 (Int.tdiv (IntKind.wrap .i64 (x2.2.1 * (2 : Int))) (3 : Int)))) then (some true) else (some false)) else (some false))))))))))
theorem bursarlaw18_MtiKinds.ok : ∀ a : Vals bursarlaw18_MtiKinds.As.tys, fnK P bursarlaw18_MtiKinds.H (lp [(5, NodeT.summ ⟨bursarlaw18_MtiKinds.sh5, bursarlaw18_MtiKinds.os5, bursarlaw18_MtiKinds.l5⟩ 0)]) 8 bursarlaw18_MtiKinds.As bursarlaw18_MtiKinds.m a some = bursarlaw18_MtiKinds.f a := fun a => by kernel_rfl
noncomputable abbrev bursarlaw18_MtiKinds.row : Row := fnRow 8 bursarlaw18_MtiKinds.As bursarlaw18_MtiKinds.m bursarlaw18_MtiKinds.f
theorem bursarlaw18_MtiKinds.row_ok : RowOK P G0 bursarlaw18_MtiKinds.row := row_told bursarlaw18_MtiKinds.hok (lp_of (l := [(5, NodeT.summ ⟨bursarlaw18_MtiKinds.sh5, bursarlaw18_MtiKinds.os5, bursarlaw18_MtiKinds.l5⟩ 0)]) ⟨loop_sum bursarlaw18_MtiKinds.hok (by kernel_rfl) (by kernel_rfl) (l := []) trivial bursarlaw18_MtiKinds.sh5 bursarlaw18_MtiKinds.os5 (by kernel_rfl) bursarlaw18_MtiKinds.t5 bursarlaw18_MtiKinds.t5_ok, trivial⟩) (fun _ => rfl) bursarlaw18_MtiKinds.ok
end Go.Proofs.Ytloambokbipnjaa
end
section
/- MtiKinds: what the code computes is true, for all classes. By this session. -/
set_option linter.unusedVariables false
set_option linter.unusedSimpArgs false
namespace Go.Proofs.Ytloambokbipnjaa
open Go Go.Fw
def cntK (c : Int) : Nat → Int := sumTo fun j => bif (mAt j).1 == c then 1 else 0
def askK (c : Int) : Nat → Int := sumTo fun j => bif (mAt j).1 == c then (bif (mAt j).2.2.1 then 0 else 1) else 0
theorem kinds_loop (c : Int) : bursarlaw18_MtiKinds.l5 (c, (allT, ((0 : Int), ((0 : Int), (0 : Int))))) = some (.inr (c, (cntK c 30, askK c 30))) := by
  have b1 : ∀ n, 0 ≤ cntK c n ∧ cntK c n ≤ 1 * n := fun n => sumTo_bound fun j _ => by cases ((mAt j).1 == c) <;> simp
  have b2 : ∀ n, 0 ≤ askK c n ∧ askK c n ≤ 1 * n := fun n => sumTo_bound fun j _ => by cases ((mAt j).1 == c) <;> cases (mAt j).2.2.1 <;> simp
  have h := rounds_to (t := bursarlaw18_MtiKinds.t5) (fun i => (c, (allT, (cntK c i, (askK c i, (i : Int)))))) 30 (fun i hi => by
    have d1 : decide ((i : Int) < ((List.length allT : Nat) : Int)) = true := decide_eq_true (by show (i : Int) < 30; omega)
    have d2 : decide ((0 : Int) ≤ (i : Int)) = true := decide_eq_true (by omega)
    have w := wrap_up (n := i) (by omega)
    have e : mti_Parse.f (List.getD allT i (bs [])) = some (mAt i, 0) := by
      have := Parse_is (tAt i)
      rw [whose_at i hi] at this
      exact this
    have c1 := b1 i
    have c2 := b2 i
    have w1 : IntKind.wrap .i64 (cntK c i + 1) = cntK c i + 1 := wrap_i64 (by omega) (by omega)
    have w2 : IntKind.wrap .i64 (askK c i + 1) = askK c i + 1 := wrap_i64 (by omega) (by omega)
    have s1 : cntK c (i + 1) = cntK c i + bif (mAt i).1 == c then 1 else 0 := rfl
    have s2 : askK c (i + 1) = askK c i + bif (mAt i).1 == c then (bif (mAt i).2.2.1 then 0 else 1) else 0 := rfl
    have hm := may_at i hi
    simp only [bursarlaw18_MtiKinds.t5, d1, d2, Int.toNat_natCast, e, w, Bool.and_self, cond_true, Option.bind_some, Answer_is, hm, s1, s2, w1, w2]
    by_cases hc : (mAt i).1 = c
    · have hc1 : ((mAt i).1 == c) = true := by simp [hc]
      have hc2 : ((mAt i).1 != c) = false := by simp [hc]
      simp only [hc1, hc2, cond_true, cond_false, show ((0 : Int) != 0) = false from rfl]
      cases hx : (mAt i).2.2.1 with
      | true => simp
      | false => simp [hc]
    · have hc1 : ((mAt i).1 == c) = false := by simp [hc]
      have hc2 : ((mAt i).1 != c) = true := by simp [hc]
      simp only [hc1, hc2, cond_true, cond_false, show ((0 : Int) != 0) = false from rfl, Int.add_zero])
  unfold bursarlaw18_MtiKinds.l5
  refine Eq.trans h (rounds_end ?_)
  simp only [bursarlaw18_MtiKinds.t5, show decide ((((30 : Nat) : Int)) < ((List.length allT : Nat) : Int)) = false from rfl, cond_false]
theorem class_at : ∀ i, i < 30 → (mAt i).1 = 1 ∨ (mAt i).1 = 2 ∨ (mAt i).1 = 4 ∨ (mAt i).1 = 5 ∨ (mAt i).1 = 6 ∨ (mAt i).1 = 8 := by decide +kernel
theorem bursarlaw18_MtiKinds_is (c : Int) : bursarlaw18_MtiKinds.f c = some true := by
  unfold bursarlaw18_MtiKinds.f
  refine (congrArg (fun z => Option.bind z _) (kinds_loop c)).trans ?_
  simp only [Option.bind_some]
  have other : c ≠ 1 → c ≠ 2 → c ≠ 4 → c ≠ 5 → c ≠ 6 → c ≠ 8 → cntK c 30 = 0 ∧ askK c 30 = 0 := by
    intro h1 h2 h4 h5 h6 h8
    have z : ∀ i, i < 30 → ((mAt i).1 == c) = false := fun i hi => by
      have := class_at i hi
      simp only [beq_eq_false_iff_ne]
      omega
    have zero : ∀ n, sumTo (fun _ => 0) n = 0 := fun n => by
      induction n with
      | zero => rfl
      | succ n ih => rw [sumTo, ih]; rfl
    constructor
    · unfold cntK
      rw [sumTo_same (h := fun _ => 0) fun j hj => by rw [z j hj]; rfl, zero]
    · unfold askK
      rw [sumTo_same (h := fun _ => 0) fun j hj => by rw [z j hj]; rfl, zero]
  by_cases h1 : c = 1
  · subst h1; rw [show cntK 1 30 = 6 by decide +kernel, show askK 1 30 = 4 by decide +kernel]; rfl
  by_cases h2 : c = 2
  · subst h2; rw [show cntK 2 30 = 6 by decide +kernel, show askK 2 30 = 4 by decide +kernel]; rfl
  by_cases h4 : c = 4
  · subst h4; rw [show cntK 4 30 = 6 by decide +kernel, show askK 4 30 = 4 by decide +kernel]; rfl
  by_cases h5 : c = 5
  · subst h5; rw [show cntK 5 30 = 6 by decide +kernel, show askK 5 30 = 4 by decide +kernel]; rfl
  by_cases h6 : c = 6
  · subst h6; rw [show cntK 6 30 = 3 by decide +kernel, show askK 6 30 = 2 by decide +kernel]; rfl
  by_cases h8 : c = 8
  · subst h8; rw [show cntK 8 30 = 3 by decide +kernel, show askK 8 30 = 2 by decide +kernel]; rfl
  obtain ⟨z1, z2⟩ := other h1 h2 h4 h5 h6 h8
  have e1 : (c == 1) = false := by simp [h1]
  have e2 : (c == 2) = false := by simp [h2]
  have e4 : (c == 4) = false := by simp [h4]
  have e5 : (c == 5) = false := by simp [h5]
  have e6 : (c == 6) = false := by simp [h6]
  have e8 : (c == 8) = false := by simp [h8]
  rw [z1, z2]
  simp only [e1, e2, e4, e5, e6, e8, cond_false]
  rfl
end Go.Proofs.Ytloambokbipnjaa
end
section
/- MtiKinds answers true whatever the class is, and what was handed in reads as it did: the given statement mtiKinds. -/
set_option linter.unusedVariables false
set_option linter.unusedSimpArgs false
namespace Go.Proofs.Ytloambokbipnjaa.mtiKinds
open Go Go.Fw Go.ChangeShapes Go.WideShapes Go.ChangeAt Go.RowKit
theorem own : ownKnob Try.prog.godebug = none := by kernel_rfl
theorem laidOut : laidOutB Try.prog = true := by kernel_rfl
set_option maxRecDepth 100000 in
theorem lifted (os : Os) (started : os.Started) (H : Type) (enc : TypeId × Value → H) :
    ReturnsInHanded {} Try.checked os 8 .any (Rows.mtiKindsSpec.pre6 enc Try.prog Try.f8 Rows.mtiKindsRow.domain false) (Rows.mtiKindsSpec.post enc Try.prog Try.f8 false true false false) := by
  refine returnsInHanded_of_change_sized (C := Try.checked) own started (by kernel_rfl) Try.func8
    (ChangeSpec.witness6 (enc := enc) (C := Try.checked) false ⟨#[], #[.int .i64 0], []⟩ 8 (by kernel_rfl) (by kernel_rfl) (by kernel_rfl) (by kernel_rfl)) ?_
  intro W base args ds gs before hval hW _ _ _
  exact law_call (P := Try.prog) (g := 8) (tb := Try.f8.resultTypes.getD 0 0) laidOut bursarlaw18_MtiKinds.row_ok (by kernel_rfl) (fun a => by kernel_rfl) (by kernel_rfl) (by kernel_rfl) rfl
    (fun ds h => match ds, h with | [_], _ => ⟨rfl, rfl, rfl⟩) (fun a ha => bursarlaw18_MtiKinds_is a) hval hW
set_option maxRecDepth 100000 in
theorem over : Rows.mtiKindsRow.holds Try.pinned (OpenSpec.ofChange Rows.mtiKindsSpec) :=
  OpenClaim.holds_of_wide 8 Try.f8 rfl rfl rfl rfl rfl rfl rfl ⟨rfl, rfl, rfl, rfl, rfl⟩ rfl rfl rfl rfl rfl (by kernel_rfl) Try.func8 (by kernel_rfl)
    (of_decide_eq_true (by kernel_rfl)) (by unfold Func.isWrapper; first | (rw [if_pos (by decide +kernel)]; kernel_rfl) | (rw [if_neg (by decide +kernel)]; exact ⟨rfl, rfl⟩))
    (fun os started H enc _ => lifted os started H enc)
end Go.Proofs.Ytloambokbipnjaa.mtiKinds
namespace Go.Proofs.Ytloambokbipnjaa
/-- The given statement. -/
theorem mtiKinds_holds : Rows.MtiKindsSaid := mtiKinds.over
#print axioms mtiKinds_holds
end Go.Proofs.Ytloambokbipnjaa
end
