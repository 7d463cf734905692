/- Part 2 of what the proof of this statement stands on: Two states are the same just if their pairs are, where both may be; the code and the document say the same of any two states. -/
import Derived.Maps.Keyed
import Derived.DeepKeys4
import Derived.Carry
import Derived.Laws.RangeString
import Derived.RangeFuncCalls
import Derived.TacticsIn
import Derived.OwnWalkIn
import Derived.LoopNIn
import Derived.RangeFuncLeaves
import Derived.RangeFuncRecord
import Derived.LoopN
import Derived.Tactics
import Derived.Orders
import Derived.OrdersIn
import Derived.Test.YtopoklifappmcaaGreatDoorKShelfSame1
section
set_option linter.unusedVariables false
set_option linter.unusedSimpArgs false
namespace Go.Fw
variable {P : Program}
def CellsR (w : World) (I : Mem) (ds : List D) (vs : List Value) : Prop := vs.length = ds.length ∧ ∀ (j : Nat) (d : D), ds[j]? = some d → RelD w I d (vs.getD j undef)
theorem cells_w : ∀ (T : Ty) (x : T.den), (T.cells x).length = T.w
  | .b, _ => rfl
  | .s, _ => rfl
  | .u, _ => rfl
  | .e, _ => rfl
  | .i _, _ => rfl
  | .p a c, x => by rw [Ty.cells, List.length_append, cells_w a, cells_w c]; rfl
  | .g t, x => cells_w t x
  | .l _, _ => rfl
theorem CellsR.left {w : World} {I : Mem} {a c : List D} {vs : List Value} (h : CellsR w I (a ++ c) vs) : CellsR w I a (vs.take a.length) := by
  obtain ⟨h1, h2⟩ := h
  rw [List.length_append] at h1
  refine ⟨by rw [List.length_take]; omega, fun j d hj => ?_⟩
  have hlt := (List.getElem?_eq_some_iff.1 hj).1
  have := h2 j d (by rw [List.getElem?_append_left hlt]; exact hj)
  rw [List.getD_eq_getElem?_getD] at this ⊢
  rw [List.getElem?_take_of_lt hlt]; exact this
theorem CellsR.right {w : World} {I : Mem} {a c : List D} {vs : List Value} (h : CellsR w I (a ++ c) vs) : CellsR w I c (vs.drop a.length) := by
  obtain ⟨h1, h2⟩ := h
  rw [List.length_append] at h1
  refine ⟨by rw [List.length_drop]; omega, fun j d hj => ?_⟩
  have := h2 (a.length + j) d (by rw [List.getElem?_append_right (by omega)]; simpa using hj)
  rw [List.getD_eq_getElem?_getD] at this ⊢
  rw [List.getElem?_drop]; exact this
theorem CellsR.one {w : World} {I : Mem} {d : D} {vs : List Value} (h : CellsR w I [d] vs) : ∃ v, vs = [v] ∧ RelD w I d v := by
  obtain ⟨h1, h2⟩ := h
  match vs, h1 with
  | [v], _ => exact ⟨v, rfl, h2 0 d rfl⟩
theorem str_list (x y : ByteArray) : (x.toList == y.toList) = decide (x = y) := by
  rw [ByteArray.toList_eq, ByteArray.toList_eq, Bool.eq_iff_iff, beq_iff_eq, decide_eq_true_iff]
  constructor
  · intro h
    cases x; cases y
    simp only [Array.toList_inj] at h
    rw [h]
  · intro h; rw [h]
theorem cells_eq {w : World} {I : Mem} : ∀ (T : Ty), T.keyB = true → ∀ (x y : T.den) (us vs : List Value), CellsR w I (T.cells x) us → CellsR w I (T.cells y) vs → (us = vs ↔ T.eqb x y = true)
  | .b, _, x, y, us, vs, hu, hv => by
    obtain ⟨u, rfl, hu'⟩ := hu.one
    obtain ⟨v, rfl, hv'⟩ := hv.one
    cases hu'; cases hv'
    simp [Ty.eqb]
  | .s, _, x, y, us, vs, hu, hv => by
    obtain ⟨u, rfl, hu'⟩ := hu.one
    obtain ⟨v, rfl, hv'⟩ := hv.one
    cases hu'; cases hv'
    simp only [Ty.eqb, str_list]
    simp
  | .u, _, x, y, us, vs, hu, hv => by
    have h1 : us = [] := List.length_eq_zero_iff.1 hu.1
    have h2 : vs = [] := List.length_eq_zero_iff.1 hv.1
    simp [h1, h2, Ty.eqb]
  | .i k, _, x, y, us, vs, hu, hv => by
    obtain ⟨u, rfl, hu'⟩ := hu.one
    obtain ⟨v, rfl, hv'⟩ := hv.one
    cases hu'; cases hv'
    simp [Ty.eqb]
  | .p a c, hk, x, y, us, vs, hu, hv => by
    simp only [Ty.keyB, Bool.and_eq_true] at hk
    simp only [Ty.cells] at hu hv
    have e1 := cells_eq a hk.1 x.1 y.1 _ _ hu.left hv.left
    have e2 := cells_eq c hk.2 x.2 y.2 _ _ hu.right hv.right
    simp only [cells_w] at e1 e2
    simp only [Ty.eqb, Bool.and_eq_true]
    rw [← e1, ← e2]
    constructor
    · rintro rfl; exact ⟨rfl, rfl⟩
    · rintro ⟨h1, h2⟩
      rw [← List.take_append_drop a.w us, h1, h2, List.take_append_drop]
  | .g t, hk, x, y, us, vs, hu, hv => cells_eq t hk x y us vs hu hv
  | .e, hk, _, _, _, _, _, _ => by cases hk
  | .l _, hk, _, _, _, _, _, _ => by cases hk
theorem elt_agg_val {w : World} {I : Mem} {T : Ty} (ha : T.agg = true) {x : T.den} {v : Value} (h : RelD w I (T.elt x) v) : ∃ vs : Array Value, v = .agg vs ∧ CellsR w I (T.cells x) vs.toList := by
  rw [Ty.elt_agg ha] at h
  cases h with
  | ag cs vs hl h1 h2 =>
    refine ⟨vs, rfl, by rw [Array.length_toList]; exact hl, fun j d hj => ?_⟩
    have := h2 j d hj
    rw [Array.getD_eq_getD_getElem?] at this
    rw [List.getD_eq_getElem?_getD, Array.getElem?_toList]; exact this
theorem elt_leaf_val {w : World} {I : Mem} {T : Ty} (ha : T.agg = false) {x : T.den} {v : Value} (h : RelD w I (T.elt x) v) : CellsR w I (T.cells x) [v] := by
  rw [Ty.elt_leaf ha]
  refine ⟨rfl, fun j d hj => ?_⟩
  match j, hj with
  | 0, hj => injection hj with hj; subst hj; exact h
theorem elt_eq {w : World} {I : Mem} {T : Ty} (hk : T.keyB = true) {x y : T.den} {u v : Value} (hu : RelD w I (T.elt x) u) (hv : RelD w I (T.elt y) v) : u = v ↔ T.eqb x y = true := by
  cases ha : T.agg with
  | true =>
    obtain ⟨us, rfl, h1⟩ := elt_agg_val ha hu
    obtain ⟨vs, rfl, h2⟩ := elt_agg_val ha hv
    rw [← cells_eq T hk x y _ _ h1 h2]
    constructor
    · intro h; injection h with h; rw [h]
    · intro h; rw [Array.toList_inj.1 h]
  | false =>
    have := cells_eq T hk x y _ _ (elt_leaf_val ha hu) (elt_leaf_val ha hv)
    rw [← this]
    simp
theorem keyTB_w : ∀ (n : Nat), (∀ (t : TypeId) (T : Ty), keyTB P n t T = true → T.keyB = true) ∧
    (∀ (total : Nat) (fs : List Field) (off : Nat) (T : Ty), keyTB.keyFs P n total fs off T = true → T.keyB = true ∧ off + T.w = total ∧ ∀ f ∈ fs, f.name ≠ "_")
  | 0 => by
    refine ⟨fun t T h => by simp [keyTB] at h, fun total fs off T h => ?_⟩
    unfold keyTB.keyFs at h
    split at h
    · simp only [beq_iff_eq] at h
      exact ⟨rfl, h, fun f hf => by cases hf⟩
    all_goals first | cases h | (exfalso; simp_all; done)
  | n + 1 => by
    obtain ⟨ih1, ih2⟩ := keyTB_w n
    refine ⟨fun t T h => ?_, fun total fs off T h => ?_⟩
    · unfold keyTB at h
      split at h
      · rfl
      · rfl
      · rfl
      · exact (ih2 _ _ _ _ h).1
      · cases h
    · unfold keyTB.keyFs at h
      split at h
      · simp only [beq_iff_eq] at h
        exact ⟨rfl, h, fun f hf => by cases hf⟩
      · cases h
      · split at h
        · injections
          subst_vars
          simp only [Bool.and_eq_true, beq_iff_eq, bne_iff_ne] at h
          exact ⟨ih1 _ _ h.2.2.1, h.2.2.2.2, fun f hf => by rw [List.mem_singleton.1 hf]; exact h.1⟩
        · injections
          subst_vars
          simp only [Bool.and_eq_true, beq_iff_eq, bne_iff_ne] at h
          obtain ⟨g1, g2, g3⟩ := ih2 _ _ _ _ h.2.2.2.2
          refine ⟨by simp only [Ty.keyB, Bool.and_eq_true]; exact ⟨ih1 _ _ h.2.2.1, g1⟩, ?_, ?_⟩
          · rw [← g2]; simp [Ty.w]; omega
          · intro f hf
            rcases List.mem_cons.1 hf with rfl | hf
            · exact h.1
            · exact g3 f hf
        · cases h
      · cases h
theorem key_lits {w : World} {I : Mem} : ∀ (n : Nat),
    (∀ (t : TypeId) (T : Ty) (d : Nat) (x : T.den) (vs : List Value), keyTB P n t T = true → P.keyTypeAt d t = true → T.keyFit x = true → CellsR w I (T.cells x) vs → ∃ ls, P.keyLits d t vs = some ls) ∧
    (∀ (total : Nat) (fs : List Field) (off : Nat) (T : Ty) (d : Nat) (x : T.den) (cs : List Value), keyTB.keyFs P n total fs off T = true → (∀ f ∈ fs, P.keyTypeAt d f.type = true) → T.keyFit x = true → CellsR w I (T.cells x) (cs.drop off) →
      ∃ ls, fs.mapM (fun f => P.keyLits d f.type ((cs.drop f.offset).take (P.cellsOf f.type))) = some ls)
  | 0 => by
    refine ⟨fun t T d x vs h => by simp [keyTB] at h, fun total fs off T d x cs h => ?_⟩
    unfold keyTB.keyFs at h
    split at h
    · intros; exact ⟨[], rfl⟩
    all_goals first | cases h | (exfalso; simp_all; done)
  | n + 1 => by
    obtain ⟨ih1, ih2⟩ := key_lits n
    have one : ∀ {d : Nat} (f : Field) (T : Ty) (off : Nat) (x : T.den) (cs : List Value), f.offset = off → keyTB P n f.type T = true → P.cellsOf f.type = T.w → P.keyTypeAt d f.type = true → T.keyFit x = true → CellsR w I (T.cells x) ((cs.drop off).take T.w) →
        ∃ ls, P.keyLits d f.type ((cs.drop f.offset).take (P.cellsOf f.type)) = some ls := by
      intro d f T off x cs h1 h2 h3 h4 h5 h6
      rw [h1, h3]
      exact ih1 _ _ _ _ _ h2 h4 h5 h6
    refine ⟨fun t T d x vs h hd hf hr => ?_, fun total fs off T d x cs h hd hf hr => ?_⟩
    · match d, hd with
      | d + 1, hd =>
        unfold keyTB at h
        unfold Program.keyTypeAt at hd
        unfold Program.keyLits
        split at h
        · rename_i hu
          obtain ⟨v, rfl, hv'⟩ := hr.one
          cases hv'
          rw [hu]
          exact ⟨_, rfl⟩
        · rename_i k k' hu
          obtain ⟨v, rfl, hv'⟩ := hr.one
          cases hv'
          simp only [Bool.and_eq_true, decide_eq_true_eq] at h
          rw [hu]
          simp only
          rw [if_pos ⟨h.1.symm, by rw [h.1]; exact hf⟩]
          exact ⟨_, rfl⟩
        · rename_i hu
          obtain ⟨v, rfl, hv'⟩ := hr.one
          cases hv'
          rw [hu]
          simp only
          rw [if_pos (Nat.le_of_ble_eq_true hf)]
          exact ⟨_, rfl⟩
        · rename_i fs T hu
          rw [hu] at hd ⊢
          simp only [Bool.and_eq_true] at hd
          obtain ⟨g1, g2, g3⟩ := (keyTB_w n).2 _ _ _ _ h
          have hall : fs.all (fun f => f.name != "_") = true := by
            rw [← Array.all_toList, List.all_eq_true]
            intro f hf; exact bne_iff_ne.2 (g3 f hf)
          have hlen : vs.length = P.cellsOf t := by rw [hr.1]; show (T.cells x).length = _; rw [cells_w]; omega
          obtain ⟨ls, hls⟩ := ih2 _ _ 0 T d x vs h (fun f hf => by
            have := hd.1.1
            rw [← Array.all_toList, List.all_eq_true] at this
            have := this f hf
            simp only [Bool.and_eq_true] at this
            exact this.2) hf (by rw [List.drop_zero]; exact hr)
          simp only
          rw [if_pos ⟨hlen, hall⟩, hls]
          exact ⟨_, rfl⟩
        · cases h
    · unfold keyTB.keyFs at h
      split at h
      · exact ⟨[], rfl⟩
      · cases h
      · split at h
        · injections
          subst_vars
          simp only [Bool.and_eq_true, beq_iff_eq, bne_iff_ne] at h
          have hlen := hr.1
          rw [cells_w] at hlen
          obtain ⟨ls, hls⟩ := one _ _ _ _ cs h.2.1 h.2.2.1 h.2.2.2.1 (hd _ (List.mem_cons_self ..)) hf (by rw [← hlen, List.take_length]; exact hr)
          exact ⟨[ls], by simp [hls]⟩
        · injections
          subst_vars
          simp only [Bool.and_eq_true, beq_iff_eq, bne_iff_ne] at h
          simp only [Ty.keyFit, Bool.and_eq_true] at hf
          simp only [Ty.cells] at hr
          have hl := hr.left
          have hri := hr.right
          rw [cells_w] at hl hri
          rw [List.drop_drop] at hri
          obtain ⟨l1, hl1⟩ := one _ _ _ _ cs h.2.1 h.2.2.1 h.2.2.2.1 (hd _ (List.mem_cons_self ..)) hf.1 hl
          obtain ⟨l2, hl2⟩ := ih2 _ _ _ _ d _ cs h.2.2.2.2 (fun g hg => hd g (List.mem_cons_of_mem _ hg)) hf.2 hri
          exact ⟨l1 :: l2, by rw [List.mapM_cons, hl1, hl2]; rfl⟩
        · cases h
      · cases h
structure KeyIs (P : Program) (k : TypeId) (K : Ty) : Prop where
  keyed : Maps.Keyed P k
  told : ∀ {w : World} {I : Mem} {x : K.den} {v : Value}, RelD w I (K.elt x) v → K.keyFit x = true → ∃ l, keyOf P k v = some l
  keyB : K.keyB = true
theorem keyT_is {k : TypeId} {K : Ty} (h : keyT P k K = true) : KeyIs P k K := by
  unfold keyT at h
  obtain ⟨h1, h2⟩ := Bool.and_eq_true _ _ ▸ h
  have hb := (keyTB_w 20).1 _ _ h1
  unfold keyTB at h1
  split at h2
  · rename_i fs hu
    simp only [Bool.and_eq_true] at h2
    obtain ⟨g1, g2, g3, g4⟩ := h2
    have hlaw := deep_law_laid (P := P) g4 (m := P.types.size + 1) (Nat.le_of_ble_eq_true g2) (k := k) (by rw [Nat.blt_eq] at g3; exact g3) g1 (by rw [hu])
    refine ⟨Maps.Keyed.of_law hlaw, ?_, hb⟩
    intro w I x v hr hf
    have h1' : keyTB P 20 k K = true := by unfold keyTB; exact h1
    rw [hu] at h1
    split at h1
    all_goals first | (rename_i he; injection he with he; cases he; done) | skip
    · rename_i fs' T he
      injection he with he
      injection he with he
      subst he
      obtain ⟨vs, rfl, hcs⟩ := elt_agg_val (T := .g T) rfl hr
      obtain ⟨ls, hls⟩ := (key_lits (P := P) (w := w) (I := I) 20).1 k (.g T) _ x vs.toList h1' g1 hf hcs
      obtain ⟨e1, e2, e3⟩ := (keyTB_w 19).2 _ _ _ _ h1
      have hsz : vs.size = P.cellsOf k := by
        have := hcs.1
        rw [Array.length_toList] at this
        rw [this]; show (T.cells x).length = _; rw [cells_w]; omega
      refine ⟨.string (keyBytes ls), ?_⟩
      unfold keyOf
      rw [hu]
      simp only
      rw [if_pos (by simp only [Bool.and_eq_true]; exact ⟨g1, by unfold Value.formed; rw [hu]; simp [hsz]⟩)]
      show ((P.keyLits (P.types.size + 1) k vs.toList).map _) = _
      rw [hls]; rfl
    · cases h1
  · rename_i q hu
    refine ⟨Maps.int_keyed hu, ?_, hb⟩
    intro w I x v hr hf
    rw [hu] at h1
    split at h1
    all_goals first | (rename_i he; injection he with he; cases he; done) | skip
    · rename_i k1 k2 he
      injection he with he
      injection he with he
      subst he
      simp only [Bool.and_eq_true, decide_eq_true_eq] at h1
      obtain ⟨v', hv', hv⟩ := (elt_leaf_val (T := .i k2) rfl hr).one
      injection hv' with hv' _
      subst hv'
      cases hv
      rw [← h1.1]
      exact ⟨_, Maps.keyOf_int_mk hu (by rw [h1.1]; exact hf)⟩
    · cases h1
  · rename_i hu
    refine ⟨Maps.string_keyed hu, ?_, hb⟩
    intro w I x v hr hf
    rw [hu] at h1
    split at h1
    all_goals first | (rename_i he; injection he with he; cases he; done) | skip
    · obtain ⟨v', hv', hv⟩ := (elt_leaf_val (T := .s) rfl hr).one
      injection hv' with hv' _
      subst hv'
      cases hv
      exact ⟨_, WideMaps.keyOf_string_mk hu (Nat.le_of_ble_eq_true hf)⟩
    · cases h1
  · cases h2
end Go.Fw
end
section
set_option linter.unusedVariables false
set_option linter.unusedSimpArgs false
namespace Go.Fw
variable {P : Program}
theorem mget_none {K V : Ty} {k : K.den} {v : V.den} : ∀ {l : List (K.den × V.den)}, (∀ (i : Nat) (x : K.den × V.den), l[i]? = some x → K.eqb k x.1 = false) → mget K V l k = none ∧ mput K V l k v = l ++ [(k, v)]
  | [], _ => ⟨rfl, rfl⟩
  | e :: l, h => by
    have h0 := h 0 e rfl
    obtain ⟨h1, h2⟩ := mget_none (v := v) (l := l) fun i x hx => h (i + 1) x hx
    exact ⟨by rw [mget, h0]; exact h1, by rw [mput, h0, h2]; rfl⟩
theorem mget_at {K V : Ty} {k : K.den} {v : V.den} : ∀ {l : List (K.den × V.den)} {j : Nat} {x : K.den × V.den}, (∀ (i : Nat) (y : K.den × V.den), i < j → l[i]? = some y → K.eqb k y.1 = false) → l[j]? = some x → K.eqb k x.1 = true →
    mget K V l k = some x.2 ∧ mput K V l k v = l.set j (k, v)
  | [], _, _, _, h, _ => by simp at h
  | e :: l, 0, x, _, h, hk => by
    injection h with h
    subst h
    exact ⟨by rw [mget, hk]; rfl, by rw [mput, hk]; rfl⟩
  | e :: l, j + 1, x, hb, h, hk => by
    have h0 := hb 0 e (by omega) rfl
    obtain ⟨h1, h2⟩ := mget_at (v := v) (l := l) (j := j) (fun i y hi hy => hb (i + 1) y (by omega) hy) h hk
    exact ⟨by rw [mget, h0]; exact h1, by rw [mput, h0, h2]; rfl⟩
theorem find_is {k : TypeId} {K V : Ty} (KI : KeyIs P k K) {w : World} {I : Mem} {es : List MapEntry} {l : List (K.den × V.den)} (hm : MapRel w I K V es l) {x : K.den} {key : Value} (hx : RelD w I (K.elt x) key) (hf : K.keyFit x = true) :
    ((Instr.findKey k key es).run P w = .ok none w ∧ ∀ (i : Nat) (y : K.den × V.den), l[i]? = some y → K.eqb x y.1 = false) ∨
    ∃ (j : Nat) (e : MapEntry) (y : K.den × V.den), (Instr.findKey k key es).run P w = .ok (some (j, e.val)) w ∧ es[j]? = some e ∧ l[j]? = some y ∧ e.key = key ∧ K.eqb x y.1 = true ∧ ∀ (i : Nat) (y : K.den × V.den), i < j → l[i]? = some y → K.eqb x y.1 = false := by
  obtain ⟨lx, hlx⟩ := KI.told hx hf
  have hall : ∀ e ∈ es, ∃ l, keyOf P k e.key = some l := by
    intro e he
    obtain ⟨j, hj, rfl⟩ := List.getElem_of_mem he
    have hj' : j < l.length := by rw [← hm.len]; exact hj
    obtain ⟨a1, a2, _⟩ := hm.at_ j es[j] l[j] (List.getElem?_eq_getElem hj) (List.getElem?_eq_getElem hj')
    exact KI.told a1 a2
  have pair : ∀ (i : Nat) (y : K.den × V.den), l[i]? = some y → ∃ e, es[i]? = some e ∧ (e.key = key ↔ K.eqb x y.1 = true) := by
    intro i y hy
    have hi : i < es.length := by rw [hm.len]; exact (List.getElem?_eq_some_iff.1 hy).1
    obtain ⟨a1, a2, _⟩ := hm.at_ i es[i] y (List.getElem?_eq_getElem hi) hy
    refine ⟨es[i], List.getElem?_eq_getElem hi, ?_⟩
    rw [← elt_eq KI.keyB hx a1]
    exact ⟨fun h => h.symm, fun h => h.symm⟩
  have fls : ∀ (i : Nat) (y : K.den × V.den) (e : MapEntry), l[i]? = some y → es[i]? = some e → e.key ≠ key → K.eqb x y.1 = false := by
    intro i y e hy he hne
    obtain ⟨e', he', hiff⟩ := pair i y hy
    obtain rfl := Option.some.inj (he.symm.trans he')
    cases hb : K.eqb x y.1 with
    | false => rfl
    | true => exact absurd (hiff.2 hb) hne
  rcases KI.keyed.find w hlx es hall with ⟨h1, h2⟩ | ⟨j, e, h1, h2, h3⟩
  · refine .inl ⟨h1, fun i y hy => ?_⟩
    obtain ⟨e, he, _⟩ := pair i y hy
    exact fls i y e hy he (h2 e (List.mem_of_getElem? he))
  · have hj : j < l.length := by rw [← hm.len]; exact (List.getElem?_eq_some_iff.1 h2).1
    have hy := List.getElem?_eq_getElem hj
    obtain ⟨e', he', hiff⟩ := pair j l[j] hy
    obtain rfl := Option.some.inj (h2.symm.trans he')
    refine .inr ⟨j, e, l[j], h1, h2, hy, h3, hiff.1 h3, fun i y hi hyi => ?_⟩
    obtain ⟨ei, hei, _⟩ := pair i y hyi
    refine fls i y ei hyi hei fun hke => ?_
    have hd := hm.dist i j y l[j] hi hyi hy
    obtain ⟨a1, _, _⟩ := hm.at_ i ei y hei hyi
    obtain ⟨b1, _, _⟩ := hm.at_ j e l[j] h2 hy
    have := (elt_eq KI.keyB b1 a1).1 (by rw [h3, hke])
    rw [this] at hd; cases hd
theorem okMap_parts {t : TypeId} {K V : Ty} (h : okMap P t K V = true) : ∃ k e, P.underlying t = some (.map k e) ∧ KeyIs P k K := by
  unfold okMap mapT at h
  split at h
  · rename_i k e he
    split at he
    · rename_i k' e' hu
      injection he with he
      injection he with h1 h2
      subst h1; subst h2
      simp only [Bool.and_eq_true] at h
      exact ⟨k', e', hu, keyT_is h.1⟩
    · cases he
  · cases h
theorem zeroT_parts {t k e : TypeId} {V : Ty} {z : V.den} (hu : P.underlying t = some (.map k e)) (h : zeroT P t V = some z) : ∃ zv, (∀ w : World, (zeroValue e).run P w = .ok zv w) ∧ ∀ w I, RelD w I (V.elt z) zv := by
  unfold zeroT mapT at h
  rw [hu] at h
  simp only at h
  split at h
  · rename_i d hd
    obtain ⟨i, zv, hi, hzv, hzd, hzr⟩ := zeroD_val hd
    refine ⟨zv, hzr, fun w I => ?_⟩
    rw [Ty.dec_elt h]
    exact ofValueD_rel w I hzd
  · cases h
theorem lk_mp {c : Cf} {n : Nat} {hp : Heap} (hH : RelH c n hp) {id : Nat} {v : Value} (hr : RelV c n (.mp id) v) {o : Ot} (h : lk hp id = .ot o) : v = .map (some (c.bk id)) ∧ OtRel c n id o := by
  cases hr
  exact ⟨rfl, hH.ot id o h⟩
theorem lookM_sound {c : Cf} {n : Nat} {hp : Heap} (hH : RelH c n hp) {t : TypeId} {x k : V} {ok : Bool} {r : V} (h : lookM P t hp x k ok = some r) {xv kv : Value} (hx : RelV c n x xv) (hk : RelV c n k kv) :
    ∃ v, (Instr.lookup t xv kv ok).run P c.w = .ok v c.w ∧ RelV c n r v := by
  unfold lookM at h
  split at h
  · rename_i id kd
    split at h
    · rename_i K V l hl
      obtain ⟨hok, h⟩ := cond_some h
      split at h
      · rename_i kx z hkx hz
        obtain ⟨hfit, h⟩ := cond_some h
        injection h with h
        obtain ⟨rfl, es, clock, hb, hm⟩ := lk_mp hH hx hl
        obtain ⟨kt, et, hu, KI⟩ := okMap_parts hok
        obtain ⟨zv, hzr, hzd⟩ := zeroT_parts hu hz
        have hkr : RelD c.w c.I (K.elt kx) kv := by rw [Ty.dec_elt hkx]; exact hk.inv_d
        obtain ⟨lx, hlx⟩ := KI.told hkr hfit
        have hck := KI.keyed.check c.w es.isEmpty hlx
        have tup : ∀ (d : D) (v : Value) (b : Bool), RelD c.w c.I d v → RelV c n (bif ok then .d (.tp [d, .b b]) else .d d) (if ok then .tuple #[v, .bool b] else v) := by
          intro d v b hd
          cases ok with
          | false => exact .d _ _ hd
          | true =>
            refine .d _ _ (.tp _ _ rfl fun j d' hj => ?_)
            match j, hj with
            | 0, hj => injection hj with hj; subst hj; exact hd
            | 1, hj => injection hj with hj; subst hj; exact .b b
        rcases find_is KI hm hkr hfit with ⟨h1, h2⟩ | ⟨j, e, y, h1, h2, h3, h4, h5, h6⟩
        · obtain ⟨g1, _⟩ := mget_none (v := z) h2
          refine ⟨if ok then .tuple #[zv, .bool false] else zv, by simp [Instr.lookup, run_underlying hu, MapKept.run_getObj_map hb, hck, h1, hzr, Result.andThen], ?_⟩
          subst h
          unfold mgetD mhas
          rw [g1]
          exact tup _ _ _ (hzd c.w c.I)
        · obtain ⟨g1, _⟩ := mget_at (v := z) h6 h3 h5
          refine ⟨if ok then .tuple #[e.val, .bool true] else e.val, by simp [Instr.lookup, run_underlying hu, MapKept.run_getObj_map hb, hck, h1, Result.andThen], ?_⟩
          subst h
          unfold mgetD mhas
          rw [g1]
          exact tup _ _ _ (hm.at_ j e y h2 h3).2.2
      · cases h
    · cases h
  · cases h
theorem map_put {c : Cf} {n : Nat} {hp : Heap} (hH : RelH c n hp) {id : Nat} {K V : Ty} {l l' : List (K.den × V.den)} {es es' : Array MapEntry} {clock clock' : Nat} (hl : lk hp id = .ot (.mp K V l)) (hb : c.w.heap[c.bk id]? = some (.map es clock))
    (hm : MapRel c.w c.I K V es'.toList l') : ∃ c', c' = c.put (c.bk id) (.map es' clock') ∧ Ext c n c' ∧ RelH c' n ((id, .ot (.mp K V l')) :: hp) := by
  have ho : (lk hp id).own = true := by rw [hl]; rfl
  have hx : Ext c n (c.put (c.bk id) (.map es' clock')) := ext_put hb (fun _ _ _ h => by cases h) (fun r h => by cases h) (hH.own id ho) (hH.ownK id ho)
  exact ⟨_, rfl, hx, relH_put hH ho hx ⟨es', clock', put_same (Array.getElem?_eq_some_iff.1 hb).1, hm.mono hx.kept⟩⟩
theorem updM_sound {c : Cf} {n : Nat} {hp hp' : Heap} (hH : RelH c n hp) {t : TypeId} {m k x : V} (h : updM P t hp m k x = some hp') {mv kv xv : Value} (hm : RelV c n m mv) (hk : RelV c n k kv) (hx : RelV c n x xv) :
    ∃ c', (Instr.mapUpdate t mv kv xv).run P c.w = .ok () c'.w ∧ Ext c n c' ∧ RelH c' n hp' := by
  unfold updM at h
  split at h
  · rename_i id kd xd
    split at h
    · rename_i K V l hl
      obtain ⟨hok, h⟩ := cond_some h
      split at h
      · rename_i kx vx hkx hvx
        obtain ⟨hfit, h⟩ := cond_some h
        injection h with h
        subst h
        obtain ⟨rfl, es, clock, hb, hr⟩ := lk_mp hH hm hl
        obtain ⟨kt, et, hu, KI⟩ := okMap_parts hok
        have hkr : RelD c.w c.I (K.elt kx) kv := by rw [Ty.dec_elt hkx]; exact hk.inv_d
        have hxr : RelD c.w c.I (V.elt vx) xv := by rw [Ty.dec_elt hvx]; exact hx.inv_d
        obtain ⟨lx, hlx⟩ := KI.told hkr hfit
        have hck := KI.keyed.check c.w false hlx
        rcases find_is KI hr hkr hfit with ⟨h1, h2⟩ | ⟨j, e, y, h1, h2, h3, h4, h5, h6⟩
        · obtain ⟨_, g2⟩ := mget_none (v := vx) h2
          rw [g2]
          obtain ⟨c', rfl, hx', hH'⟩ := map_put (clock' := clock + 1) (es' := es.push { key := kv, val := xv, born := clock }) (l' := l ++ [(kx, vx)]) hH hl hb
            { len := by simp [hr.len]
              at_ := fun j e y he hy => by
                rw [Array.toList_push] at he
                by_cases hj : j < es.toList.length
                · rw [List.getElem?_append_left hj] at he
                  rw [List.getElem?_append_left (by rw [← hr.len]; exact hj)] at hy
                  exact hr.at_ j e y he hy
                · rw [List.getElem?_append_right (by omega)] at he
                  rw [List.getElem?_append_right (by rw [← hr.len]; omega), ← hr.len] at hy
                  obtain ⟨q, hq⟩ : ∃ q, j - es.toList.length = q := ⟨_, rfl⟩
                  rw [hq] at he hy
                  match q, he, hy with
                  | 0, he, hy =>
                    injection he with he; injection hy with hy
                    subst he; subst hy
                    exact ⟨hkr, hfit, hxr⟩
              dist := fun i j y z hij hy hz => by
                have hi : i < l.length := by
                  have := (List.getElem?_eq_some_iff.1 hz).1
                  rw [List.length_append, List.length_singleton] at this
                  omega
                rw [List.getElem?_append_left hi] at hy
                by_cases hj : j < l.length
                · rw [List.getElem?_append_left hj] at hz
                  exact hr.dist i j y z hij hy hz
                · rw [List.getElem?_append_right (by omega)] at hz
                  obtain ⟨q, hq⟩ : ∃ q, j - l.length = q := ⟨_, rfl⟩
                  rw [hq] at hz
                  match q, hz with
                  | 0, hz =>
                    injection hz with hz
                    subst hz
                    exact h2 i y hy }
          refine ⟨_, ?_, hx', hH'⟩
          simp [Instr.mapUpdate, run_underlying hu, MapKept.run_getObj_map hb, hck, h1, Result.andThen, MapKept.run_setObj_map _ hb]
          rfl
        · obtain ⟨_, g2⟩ := mget_at (v := vx) h6 h3 h5
          rw [g2]
          have hjl : j < l.length := (List.getElem?_eq_some_iff.1 h3).1
          have hje : j < es.toList.length := (List.getElem?_eq_some_iff.1 h2).1
          have hjs : j < es.size := by simpa using hje
          have hke := KI.keyed.stays c.w hlx
          obtain ⟨c', rfl, hx', hH'⟩ := map_put (clock' := clock) (es' := es.modify j fun e => { e with key := kv, val := xv }) (l' := l.set j (kx, vx)) hH hl hb
            { len := by simp [hr.len]
              at_ := fun i e' y' he hy => by
                rw [Array.getElem?_toList, Array.getElem?_modify] at he
                by_cases hij : j = i
                · subst hij
                  rw [if_pos rfl] at he
                  rw [List.getElem?_set_self hjl] at hy
                  injection hy with hy
                  subst hy
                  obtain ⟨e0, he0, rfl⟩ := Option.map_eq_some_iff.1 he
                  exact ⟨hkr, hfit, hxr⟩
                · rw [if_neg hij] at he
                  rw [List.getElem?_set_ne hij] at hy
                  exact hr.at_ i e' y' (by rw [Array.getElem?_toList]; exact he) hy
              dist := fun i q y' z hiq hy hz => by
                -- the key there is the same one
                have same : ∀ (i : Nat) (y' : K.den × V.den), (l.set j (kx, vx))[i]? = some y' → ∃ y0 e0, l[i]? = some y0 ∧ es.toList[i]? = some e0 ∧ RelD c.w c.I (K.elt y'.1) e0.key ∧ RelD c.w c.I (K.elt y0.1) e0.key := by
                  intro i y' hy
                  by_cases hij : j = i
                  · subst hij
                    rw [List.getElem?_set_self hjl] at hy
                    injection hy with hy
                    subst hy
                    exact ⟨y, e, h3, h2, by rw [h4]; exact hkr, (hr.at_ j e y h2 h3).1⟩
                  · rw [List.getElem?_set_ne hij] at hy
                    have hi : i < es.toList.length := by rw [hr.len]; exact (List.getElem?_eq_some_iff.1 hy).1
                    have := (hr.at_ i _ y' (List.getElem?_eq_getElem hi) hy).1
                    exact ⟨y', _, hy, List.getElem?_eq_getElem hi, this, this⟩
                obtain ⟨a0, ea, ha1, ha2, ha3, ha4⟩ := same i y' hy
                obtain ⟨b0, eb, hb1, hb2, hb3, hb4⟩ := same q z hz
                have hd := hr.dist i q a0 b0 hiq ha1 hb1
                cases hq : K.eqb z.1 y'.1 with
                | false => rfl
                | true =>
                  have e1 := (elt_eq KI.keyB hb3 ha3).2 hq
                  have e2 := (elt_eq KI.keyB hb4 ha4).1 e1
                  rw [e2] at hd; cases hd }
          refine ⟨_, ?_, hx', hH'⟩
          have hget : es[j]? = some e := by rw [← Array.getElem?_toList]; exact h2
          have hst : (Instr.keyThatStays (((es[j]?).map (·.key)).getD kv) kv).run P c.w = .ok kv c.w := by
            rw [hget]
            show (Instr.keyThatStays e.key kv).run P c.w = _
            rw [h4]; exact hke
          simp [Instr.mapUpdate, run_underlying hu, MapKept.run_getObj_map hb, hck, h1, Result.andThen, hst, MapKept.run_setObj_map _ hb]
          rfl
      · cases h
    · cases h
  · cases h
theorem fm_find {k : TypeId} {k' : IntKind} (KI : KeyIs P k (.i k')) {c : Cf} {n : Nat} {es : List MapEntry} {l : List (Int × V)} (hm : FmRel c n k' es l) {m : Int} (hf : (Lit.int k' m).wf = true) :
    (∃ q, keyOf P k (.int k' m) = some q) ∧ (((Instr.findKey k (.int k' m) es).run P c.w = .ok none c.w ∧ ∀ (i : Nat) (y : Int × V), l[i]? = some y → y.1 ≠ m) ∨
    ∃ (j : Nat) (e : MapEntry) (y : Int × V), (Instr.findKey k (.int k' m) es).run P c.w = .ok (some (j, e.val)) c.w ∧ es[j]? = some e ∧ l[j]? = some y ∧ y.1 = m) := by
  have told : ∀ m, (Lit.int k' m).wf = true → ∃ q, keyOf P k (.int k' m) = some q := fun m hf => KI.told (w := c.w) (I := c.I) (x := m) (RelD.i k' m) hf
  obtain ⟨q, hq⟩ := told m hf
  have pair : ∀ (i : Nat) (y : Int × V), l[i]? = some y → ∃ e, es[i]? = some e ∧ e.key = .int k' y.1 := by
    intro i y hy
    have hi : i < es.length := by rw [hm.len]; exact (List.getElem?_eq_some_iff.1 hy).1
    exact ⟨es[i], List.getElem?_eq_getElem hi, (hm.at_ i es[i] y (List.getElem?_eq_getElem hi) hy).1⟩
  have hall : ∀ e ∈ es, ∃ l, keyOf P k e.key = some l := by
    intro e he
    obtain ⟨j, hj, rfl⟩ := List.getElem_of_mem he
    have hj' : j < l.length := by rw [← hm.len]; exact hj
    obtain ⟨a1, a2, _⟩ := hm.at_ j es[j] l[j] (List.getElem?_eq_getElem hj) (List.getElem?_eq_getElem hj')
    rw [a1]; exact told _ a2
  refine ⟨⟨q, hq⟩, ?_⟩
  rcases KI.keyed.find c.w hq es hall with ⟨h1, h2⟩ | ⟨j, e, h1, h2, h3⟩
  · refine .inl ⟨h1, fun i y hy he => ?_⟩
    obtain ⟨e, he1, he2⟩ := pair i y hy
    exact h2 e (List.mem_of_getElem? he1) (by rw [he2, he])
  · have hj : j < l.length := by rw [← hm.len]; exact (List.getElem?_eq_some_iff.1 h2).1
    have hy := List.getElem?_eq_getElem hj
    obtain ⟨e', he', hk⟩ := pair j l[j] hy
    obtain rfl := Option.some.inj (h2.symm.trans he')
    rw [h3] at hk
    injection hk with _ hk
    exact .inr ⟨j, e, l[j], h1, h2, hy, hk.symm⟩
theorem fget_none {m : Int} : ∀ {l : List (Int × V)}, (∀ (i : Nat) (y : Int × V), l[i]? = some y → y.1 ≠ m) → fget l m = .d .nF
  | [], _ => rfl
  | e :: l, h => by
    have h0 : (e.1 == m) = false := by simpa using h 0 e rfl
    rw [fget, h0]
    exact fget_none fun i y hy => h (i + 1) y hy
theorem fget_at {m : Int} : ∀ {l : List (Int × V)} {j : Nat} {y : Int × V}, (∀ (i : Nat) (z : Int × V), i < j → l[i]? = some z → z.1 ≠ m) → l[j]? = some y → y.1 = m → fget l m = y.2
  | [], _, _, _, h, _ => by simp at h
  | e :: l, 0, y, _, h, hk => by
    injection h with h
    subst h
    have h0 : (e.1 == m) = true := by simpa using hk
    rw [fget, h0]; rfl
  | e :: l, j + 1, y, hb, h, hk => by
    have h0 : (e.1 == m) = false := by simpa using hb 0 e (by omega) rfl
    rw [fget, h0]
    exact fget_at (fun i z hi hz => hb (i + 1) z (by omega) hz) h hk
theorem fnew_is {m : Int} : ∀ {l : List (Int × V)}, fnew l m = true → ∀ (i : Nat) (y : Int × V), l[i]? = some y → y.1 ≠ m
  | [], _, i, y, hy => by simp at hy
  | e :: l, h, i, y, hy => by
    simp only [fnew, Bool.and_eq_true, Bool.not_eq_true', beq_eq_false_iff_ne] at h
    cases i with
    | zero => injection hy with hy; subst hy; exact h.1
    | succ i => exact fnew_is h.2 i y hy
theorem okFm_parts {t : TypeId} {k' : IntKind} (h : okFm P t k' = true) : ∃ k e, P.underlying t = some (.map k e) ∧ KeyIs P k (.i k') ∧ ∃ zv, (∀ w : World, (zeroValue e).run P w = .ok zv w) ∧ ∀ w I, RelD w I .nF zv := by
  unfold okFm mapT at h
  split at h
  · rename_i k e he
    split at he
    · rename_i k1 e1 hu
      injection he with he
      injection he with h1 h2
      subst h1; subst h2
      simp only [Bool.and_eq_true] at h
      obtain ⟨h1, h2⟩ := h
      unfold nfQ at h2
      split at h2
      · rename_i hd
        obtain ⟨i, zv, hi, hzv, hzd, hzr⟩ := zeroD_val hd
        exact ⟨_, _, hu, keyT_is h1, zv, hzr, fun w I => ofValueD_rel w I hzd⟩
      · cases h2
    · cases he
  · cases h
theorem fkey_is {k' : IntKind} {d : D} {m : Int} (h : fkey k' d = some m) : d = .i k' m ∧ (Lit.int k' m).wf = true := by
  unfold fkey at h
  split at h
  · obtain ⟨h1, h⟩ := cond_some h
    injection h with h
    subst h
    simp only [Bool.and_eq_true, decide_eq_true_eq] at h1
    rw [h1.1]
    exact ⟨rfl, h1.2⟩
  · cases h
theorem keyD_is {c : Cf} {n : Nat} {k' : IntKind} {k : V} {m : Int} (h : keyD k' k = some m) {kv : Value} (hk : RelV c n k kv) : kv = .int k' m ∧ (Lit.int k' m).wf = true := by
  unfold keyD at h
  split at h
  · obtain ⟨rfl, hf⟩ := fkey_is h
    have := hk.inv_d
    cases this
    exact ⟨rfl, hf⟩
  · cases h
theorem fmAt_is {hp : Heap} {x : V} {id : Nat} {k' : IntKind} {l : List (Int × V)} (h : fmAt hp x = some (id, k', l)) : x = .mp id ∧ lk hp id = .ot (.fm k' l) := by
  unfold fmAt at h
  split at h
  · split at h
    · rename_i hl
      injection h with h
      injection h with h1 h2
      injection h2 with h2 h3
      subst h1; subst h2; subst h3
      exact ⟨rfl, hl⟩
    · cases h
  · cases h
theorem lookupV_sound {c : Cf} {n : Nat} {hp : Heap} (hH : RelH c n hp) {t : TypeId} {x k : V} {ok : Bool} {r : V} (h : lookupV P t hp x k ok = some r) {xv kv : Value} (hx : RelV c n x xv) (hk : RelV c n k kv) :
    ∃ v, (Instr.lookup t xv kv ok).run P c.w = .ok v c.w ∧ RelV c n r v := by
  unfold lookupV at h
  split at h
  · rename_i id k' l hf
    obtain ⟨hok, h⟩ := cond_some h
    split at h
    · rename_i m hm
      injection h with h0
      obtain ⟨rfl, hl⟩ := fmAt_is hf
      obtain ⟨rfl, es, clock, hb, hr⟩ := lk_mp hH hx hl
      obtain ⟨rfl, hfit⟩ := keyD_is hm hk
      simp only [Bool.and_eq_true, Bool.not_eq_true'] at hok
      obtain ⟨hok, rfl⟩ := hok
      obtain ⟨kt, et, hu, KI, zv, hzr, hzd⟩ := okFm_parts hok
      obtain ⟨⟨q, hq⟩, hfd⟩ := fm_find KI hr hfit
      have hck := KI.keyed.check c.w es.isEmpty hq
      rcases hfd with ⟨h1, h2⟩ | ⟨j, e, y, h1, h2, h3, h4⟩
      · refine ⟨zv, by simp [Instr.lookup, run_underlying hu, MapKept.run_getObj_map hb, hck, h1, hzr, Result.andThen], ?_⟩
        rw [← h0, fget_none h2]
        exact .d _ _ (hzd c.w c.I)
      · refine ⟨e.val, by simp [Instr.lookup, run_underlying hu, MapKept.run_getObj_map hb, hck, h1, Result.andThen], ?_⟩
        rw [← h0, fget_at (fun i z hi hz => by have := hr.dist i j z y hi hz h3; rw [h4] at this; exact fun e => this e.symm) h3 h4]
        exact (hr.at_ j e y h2 h3).2.2
    · cases h
  · exact lookM_sound hH h hx hk
theorem updateV_sound {c : Cf} {n : Nat} {hp hp' : Heap} (hH : RelH c n hp) {t : TypeId} {m k x : V} (h : updateV P t hp m k x = some hp') {mv kv xv : Value} (hm : RelV c n m mv) (hk : RelV c n k kv) (hx : RelV c n x xv) :
    ∃ c', (Instr.mapUpdate t mv kv xv).run P c.w = .ok () c'.w ∧ Ext c n c' ∧ RelH c' n hp' := by
  unfold updateV at h
  split at h
  · rename_i id k' l hf
    obtain ⟨hok, h⟩ := cond_some h
    split at h
    · rename_i a ha
      obtain ⟨hnew, h⟩ := cond_some h
      injection h with h
      subst h
      obtain ⟨rfl, hl⟩ := fmAt_is hf
      obtain ⟨rfl, es, clock, hb, hr⟩ := lk_mp hH hm hl
      obtain ⟨rfl, hfit⟩ := keyD_is ha hk
      simp only [Bool.and_eq_true] at hok
      obtain ⟨kt, et, hu, KI, zv, hzr, hzd⟩ := okFm_parts hok.1
      obtain ⟨⟨q, hq⟩, hfd⟩ := fm_find KI hr hfit
      have hck := KI.keyed.check c.w false hq
      have hn := fnew_is hnew
      have h1 : (Instr.findKey kt (.int k' a) es.toList).run P c.w = .ok none c.w := by
        rcases hfd with ⟨h1, _⟩ | ⟨j, e, y, _, _, h3, h4⟩
        · exact h1
        · exact absurd h4 (hn j y h3)
      have ho : (lk hp id).own = true := by rw [hl]; rfl
      obtain ⟨es', hes⟩ : ∃ es', es' = es.push { key := .int k' a, val := xv, born := clock } := ⟨_, rfl⟩
      have hx' : Ext c n (c.put (c.bk id) (.map es' (clock + 1))) := ext_put hb (fun _ _ _ h => by cases h) (fun r h => by cases h) (hH.own id ho) (hH.ownK id ho)
      have hr' : FmRel c n k' es'.toList (l ++ [(a, x)]) := by
        subst hes
        refine ⟨by simp [hr.len], fun j e y he hy => ?_, fun i j y z hij hy hz => ?_⟩
        · rw [Array.toList_push] at he
          by_cases hj : j < es.toList.length
          · rw [List.getElem?_append_left hj] at he
            rw [List.getElem?_append_left (by rw [← hr.len]; exact hj)] at hy
            exact hr.at_ j e y he hy
          · rw [List.getElem?_append_right (by omega)] at he
            rw [List.getElem?_append_right (by rw [← hr.len]; omega), ← hr.len] at hy
            obtain ⟨q, hq⟩ : ∃ q, j - es.toList.length = q := ⟨_, rfl⟩
            rw [hq] at he hy
            match q, he, hy with
            | 0, he, hy =>
              injection he with he; injection hy with hy
              subst he; subst hy
              exact ⟨rfl, hfit, hx⟩
        · have hi : i < l.length := by
            have := (List.getElem?_eq_some_iff.1 hz).1
            rw [List.length_append, List.length_singleton] at this
            omega
          rw [List.getElem?_append_left hi] at hy
          by_cases hj : j < l.length
          · rw [List.getElem?_append_left hj] at hz
            exact hr.dist i j y z hij hy hz
          · rw [List.getElem?_append_right (by omega)] at hz
            obtain ⟨q, hq⟩ : ∃ q, j - l.length = q := ⟨_, rfl⟩
            rw [hq] at hz
            match q, hz with
            | 0, hz =>
              injection hz with hz
              subst hz
              exact fun e => hn i y hy e.symm
      refine ⟨_, ?_, hx', relH_put hH ho hx' ⟨es', clock + 1, put_same (Array.getElem?_eq_some_iff.1 hb).1, hr'.to fun x v _ hv => hv.mono hx' (Nat.le_refl n)⟩⟩
      simp [Instr.mapUpdate, run_underlying hu, MapKept.run_getObj_map hb, hck, h1, Result.andThen, MapKept.run_setObj_map _ hb, hes]
      rfl
    · cases h
  · exact updM_sound hH h hm hk hx
theorem makeMapV_sound {c : Cf} {n : Nat} {hp : Heap} (hH : RelH c n hp) {t : TypeId} {r : V × Nat × Heap} (h : makeMapV P t n hp = some r) : ∃ v c', (Instr.makeMap t none).run P c.w = .ok v c'.w ∧ Outs c n r v c' := by
  unfold makeMapV at h
  split at h
  · split at h
    · rename_i K V _ _
      obtain ⟨hok, h⟩ := cond_some h
      injection h with h
      subst h
      refine ⟨_, c.new n (.map #[] 0), rfl, ext_new hH _ 0, Nat.le_succ n, relH_new hH _ ⟨⟨#[], 0, ?_, ⟨rfl, fun j e x he => by simp at he, fun i j x y _ hx => by simp at hx⟩⟩, ?_⟩, ?_⟩
      · rw [Cf.new_bk]; exact heap_alloc_new c.w _
      · rw [Cf.new_bk]; intro hI; have := hH.low _ hI; omega
      · have := RelV.mp (c := c.new n (.map #[] 0)) (n := n + 1) n (Nat.lt_succ_self n)
        rw [Cf.new_bk] at this
        exact this
    · obtain ⟨hok, h⟩ := cond_some h
      injection h with h
      subst h
      refine ⟨_, c.new n (.map #[] 0), rfl, ext_new hH _ 0, Nat.le_succ n, relH_new hH _ ⟨⟨#[], 0, ?_, ⟨rfl, fun j e x he => by simp at he, fun i j x y _ hx => by simp at hx⟩⟩, ?_⟩, ?_⟩
      · rw [Cf.new_bk]; exact heap_alloc_new c.w _
      · rw [Cf.new_bk]; intro hI; have := hH.low _ hI; omega
      · have := RelV.mp (c := c.new n (.map #[] 0)) (n := n + 1) n (Nat.lt_succ_self n)
        rw [Cf.new_bk] at this
        exact this
    · cases h
  · cases h
theorem rangeV_sound {c : Cf} {n : Nat} {hp : Heap} (hH : RelH c n hp) {t : TypeId} {x : V} {xv : Value} (hx : RelV c n x xv) {r : V × Nat × Heap} (h : rangeV P t x n hp = some r) : ∃ v c', (Instr.range t xv).run P c.w = .ok v c'.w ∧ Outs c n r v c' := by
  unfold rangeV at h
  split at h
  · rename_i s
    obtain ⟨hst, h⟩ := cond_some h
    injection h with h
    subst h
    have hu : P.underlying t = some .string := by
      unfold strT at hst
      split at hst
      · assumption
      · cases hst
    have := hx.inv_d
    cases this
    refine ⟨.pointer (some ⟨c.w.heap.size, 0, none⟩), c.new n (.stringIter s 0), by simp [Instr.range, run_underlying hu, Result.andThen, Cf.new], ext_new hH _ 0, Nat.le_succ n, relH_new hH _ ⟨?_, ?_⟩, ?_⟩
    · show _ = some (Obj.stringIter s 0)
      rw [Cf.new_bk]; exact heap_alloc_new c.w _
    · rw [Cf.new_bk]; intro hI; have := hH.low _ hI; omega
    · have := RelV.pt (c := c.new n (.stringIter s 0)) (n := n + 1) n 0 (Nat.lt_succ_self n)
      rw [Cf.new_bk] at this
      exact this
  · cases h
theorem nextV_sound {c : Cf} {n : Nat} {hp : Heap} (hH : RelH c n hp) {t : TypeId} {isS : Bool} {it : V} {iv : Value} (hx : RelV c n it iv) {r : V × Nat × Heap} (h : nextV isS it n hp = some r) : ∃ v c', (Instr.next iv isS t).run P c.w = .ok v c'.w ∧ Outs c n r v c' := by
  unfold nextV at h
  split at h
  · rename_i id
    split at h
    · rename_i s pos hl
      cases hx
      have hb : c.w.heap[c.bk id]? = some (.stringIter s pos) := hH.ot id _ hl
      have hg : (getObj (c.bk id)).run P c.w = .ok (.stringIter s pos) c.w := by simp [getObj, Sem.run, hb]
      by_cases hp' : pos < s.size
      · have hpb : Nat.blt pos s.size = true := by rw [Nat.blt_eq]; exact hp'
        rw [hpb] at h
        injection h with h
        subst h
        have ho : (lk hp id).own = true := by rw [hl]; rfl
        have hx : Ext c n (c.put (c.bk id) (.stringIter s (pos + (runeD s pos).2))) := ext_put hb (fun _ _ _ h => by cases h) (fun r h => by cases h) (hH.own id ho) (hH.ownK id ho)
        have hs : (setObj (c.bk id) (.stringIter s (pos + (runeD s pos).2))).run P c.w = .ok () (c.put (c.bk id) (.stringIter s (pos + (runeD s pos).2))).w := by
          simp [setObj, Sem.run, hb, Cf.put]
        refine ⟨.tuple #[.bool true, .int .i64 pos, .int .i32 (runeD s pos).1], _, ?_, hx, Nat.le_refl n, relH_put hH ho hx (put_same (Array.getElem?_eq_some_iff.1 hb).1), ?_⟩
        · simp [Instr.next, hg, hp', Result.andThen]
          have hs' := hs
          unfold runeD at hs'
          simp [hs', goInt, runeD]
        · refine .d _ _ (.tp _ _ rfl fun j d' hj => ?_)
          match j, hj with
          | 0, hj => injection hj with hj; subst hj; exact .b true
          | 1, hj => injection hj with hj; subst hj; exact .i .i64 _
          | 2, hj => injection hj with hj; subst hj; exact .i .i32 _
      · have hpb : Nat.blt pos s.size = false := by
          cases hq : Nat.blt pos s.size
          · rfl
          · rw [Nat.blt_eq] at hq; exact absurd hq hp'
        rw [hpb] at h
        injection h with h
        subst h
        refine ⟨.tuple #[.bool false], c, by simp [Instr.next, hg, hp', Result.andThen], .refl c n, Nat.le_refl n, hH, ?_⟩
        refine .d _ _ (.tp _ _ rfl fun j d' hj => ?_)
        match j, hj with
        | 0, hj => injection hj with hj; subst hj; exact .b false
    · cases h
  · cases h
end Go.Fw
end
section
set_option linter.unusedVariables false
set_option linter.unusedSimpArgs false
namespace Go.Fw
variable {P : Program}

theorem strOf_spec : ∀ (xs : List D) (l : List UInt8), strOf xs = some l → ∃ ns : List Int, xs = ns.map (D.i .u8) ∧ l = ns.map fun n => UInt8.ofNat n.toNat
  | [], l, h => by simp only [strOf, Option.some.injEq] at h; subst h; exact ⟨[], rfl, rfl⟩
  | x :: xs, l, h => by
    cases x with
    | i k n =>
      cases k with
      | u8 =>
        simp only [strOf] at h
        obtain ⟨l', hl, rfl⟩ := Option.map_eq_some_iff.1 h
        obtain ⟨ns, rfl, rfl⟩ := strOf_spec xs l' hl
        exact ⟨n :: ns, rfl, rfl⟩
      | _ => simp [strOf] at h
    | _ => simp [strOf] at h
theorem foldl_push : ∀ (ns : List Int) (s : ByteArray), ns.foldl (fun r n => r.push (UInt8.ofNat n.toNat)) s = ⟨(s.data.toList ++ ns.map fun n => UInt8.ofNat n.toNat).toArray⟩
  | [], s => by simp
  | n :: ns, s => by
    rw [List.foldl_cons, foldl_push ns]
    congr 2
    simp [ByteArray.push]

theorem bytesToStr_sound {c : Cf} {n : Nat} {hp : Heap} (hH : RelH c n hp) {src dst e : TypeId} (hs : P.underlying src = some (.slice e)) (he : P.underlying e = some (.int .u8)) (hd : P.underlying dst = some .string)
    {x : V} {v : Value} {w : Nat} {zs : Ls} {l : List UInt8} (h : sliceOf hp x = some (w, zs)) (hw : w = 1 ∨ zs.xs = []) (hl : strOf zs.xs = some l) (hx : RelV c n x v) :
    (convert src dst v).run P c.w = .ok (.string ⟨l.toArray⟩) c.w := by
  obtain ⟨ad, cap, rfl, h1, h2⟩ := sliceOf_sound hH h hx
  generalize zs.xs = xs at *
  obtain ⟨ns, rfl, rfl⟩ := strOf_spec xs l hl
  rw [run_convert_bytes_string c.w src dst e _ _ _ hs he hd]
  cases ad with
  | none =>
    have hn := (h1 rfl).1
    have hns : ns = [] := by simpa using hn
    subst hns
    simp [Conv.bytesToString]
    rfl
  | some a =>
    by_cases hne : ns = []
    · subst hne
      have := run_bytesToString (P := P) c.w a 0 cap [] (by simp [loadCells, loadCellsFrom])
      exact this
    · obtain ⟨hsp, cs, e', fz, hc, hb, hw', h1', hh⟩ := h2 a rfl (by simpa using hne)
      have hw1 : w = 1 := hw.resolve_right (by simpa using hne)
      subst hw1
      have hcells : ∀ j : Nat, j < ns.length → cs[a.off + j]? = some (.int .u8 (ns.getD j 0)) := by
        intro j hj
        have := hh j 0 (.i .u8 (ns.getD j 0)) (.i .u8 (ns.getD j 0)) (by simp [List.getD_eq_getElem?_getD, List.getElem?_eq_getElem hj]) rfl
        simp only [Nat.mul_one, Nat.add_zero] at this
        simp only [List.length_map, Nat.mul_one] at hb
        have hlt : a.off + j < cs.size := by omega
        rw [Array.getD_eq_getD_getElem?, Array.getElem?_eq_getElem hlt] at this
        rw [Array.getElem?_eq_getElem hlt]
        simp only [Option.getD_some] at this
        generalize cs[a.off + j] = v at this
        cases this
        rfl
      have hload := run_loadCells_list (P := P) c.w a (ns.map (Value.int .u8)) (fun j v hj => by
        rw [addr_add _ hsp, cell_of_row c.w a.block (a.off + j) cs e' fz hc]
        have hlt := (List.getElem?_eq_some_iff.1 hj).1
        simp only [List.length_map] at hlt
        rw [hcells j hlt]
        simp only [List.getElem?_map, List.getElem?_eq_getElem hlt, Option.map_some, Option.some.injEq] at hj
        rw [← hj, List.getD_eq_getElem?_getD, List.getElem?_eq_getElem hlt]; rfl)
      simp only [List.length_map] at hload ⊢
      rw [run_bytesToString (P := P) c.w a ns.length cap ns hload, foldl_push]
      rfl

theorem bytesWorld_eq (w : World) (e : TypeId) (s : ByteArray) : Lib.bytesWorld w e s = w.drew.alloc (.cells (Lib.bytesCells w e s) e ((Lib.bytesCells w e s).size, (Lib.bytesCells w e s).size + 1)) := by
  have hh : (Lib.bytesWorld w e s).heap = (w.drew.alloc (.cells (Lib.bytesCells w e s) e ((Lib.bytesCells w e s).size, (Lib.bytesCells w e s).size + 1))).heap := by
    apply Array.ext_getElem?
    intro j
    by_cases hj : j < w.heap.size
    · rw [Lib.bytesWorld_at_old w e s j hj, alloc_old w.drew _ j hj]; rfl
    · by_cases hj' : j = w.heap.size
      · subst hj'
        rw [Lib.bytesWorld_at_new]
        exact (heap_alloc_new w.drew _).symm
      · rw [Array.getElem?_eq_none (by rw [Lib.bytesWorld_size]; omega), Array.getElem?_eq_none (by simp; omega)]
  have h2 : Lib.bytesWorld w e s = { w.drew with heap := (Lib.bytesWorld w e s).heap } := by
    unfold Lib.bytesWorld World.freeze
    simp [World.alloc, World.drew, -World.alloc_eq, -World.drew_eq]
  rw [h2, hh]
  rfl

theorem strToBytes_sound {c : Cf} {n : Nat} {hp : Heap} (hH : RelH c n hp) {src dst e : TypeId} (hs : P.underlying src = some .string) (hd : P.underlying dst = some (.slice e)) (he : P.underlying e = some (.int .u8)) (s : ByteArray) :
    ∃ val c', (convert src dst (.string s)).run P c.w = .ok val c'.w ∧ Outs c n (.mf n 1, n + 1, (n, .arr 1 (bytesL s)) :: hp) val c' := by
  have hrun := Lib.run_convert_string_bytes (P := P) c.w src dst e s hs hd he
  rw [bytesWorld_eq] at hrun
  have hflat : Flat c.drew.w c.drew.I 1 (bytesD s) (s.data.map fun b => Value.int .u8 b.toNat) := .bytes _ _ s
  have hlen : (bytesD s).length = s.size := by simp [bytesD]
  have hsz : (Lib.bytesCells c.w e s).size = grownCap c.w s.size 0 e := by
    have := grownCap_ge c.w s.size 0 e
    simp [Lib.bytesCells]; omega
  have hout := arr_new (n := n) (e := e) (relH_drew hH) (Nat.lt_succ_self 0) (bytesL_xs s) hflat (cap := grownCap c.w s.size 0 e) (rest := Array.replicate (grownCap c.w s.size 0 e - s.size) (.int .u8 0)) (by rw [hlen]; exact grownCap_ge ..)
    (by rw [Nat.mul_one]; exact hsz) ((Lib.bytesCells c.w e s).size, (Lib.bytesCells c.w e s).size + 1) (by intro o ho; have : o < (Lib.bytesCells c.w e s).size := ho; simp; omega)
  rw [hlen] at hout
  exact ⟨_, _, hrun, hout.after (ext_drew c n)⟩
def callFree : Op → Bool
  | .call c => (match c.callee with
    | .builtin .len | .builtin .append | .builtin .clear | .builtin .min => true
    | _ => false)
  | _ => true

theorem pure1_some {n : Nat} {hp : Heap} {v : Option V} {r : V × Nat × Heap} (h : pure1 n hp v = some r) : ∃ x, v = some x ∧ r = (x, n, hp) := by
  cases v with
  | none => cases h
  | some x => injection h with h; exact ⟨x, rfl, h.symm⟩

inductive Runs (P : Program) (o : Oper) (a : Act) (w : World) : Value → World → Prop
  | val (v : Value) (w' : World) (h : (execOp a.eval o).run P w = .ok (.value v) w') : Runs P o a w v w'
  | skip (w' : World) (h : (execOp a.eval o).run P w = .ok .skip w') : Runs P o a w undef w'

def Fe : Option Nat → Fence
  | none => .wide
  | some l => Fence.wide.inRound l
theorem Fe_fn (ro : Option Nat) (f : FuncId) : (Fe ro).fn f := by cases ro <;> trivial
theorem Fe_depth (ro : Option Nat) : (Fe ro).depth.isSome = true → 1 ≤ 3 := fun _ => by omega
theorem Fe_calls {ro : Option Nat} {n : Nat} {f : FuncId} {args : Array Value} {w : World} {R : Ending → World → Prop} (h : Calls P f args w R) : CallsIn (Fe ro) n P f args w R := by
  cases ro with
  | none => exact callsIn_wide.2 h
  | some l => exact CallsIn.inRound l (callsIn_wide.2 h)
def noDefer : Op → Bool
  | .defer _ => false
  | _ => true
theorem semAt_same {ro : Option Nat} {ρ : Operand → Value} {o : Oper} (h : noDefer o.op = true) : o.semAt (Fe ro).round ρ = execOp ρ o :=
  Oper.semAt_plain (Fe ro) ρ o fun c hc => by rw [hc] at h; cases h
theorem Runs.wp {ro : Option Nat} {o : Oper} {a : Act} {w w' : World} {v : Value} {K : Act → World → Prop} {Q : Exit → Act → World → Prop} (hd : noDefer o.op = true) (h : Runs P o a w v w') (hk : K (a.put o.dst v) w') : o.wpIn (Fe ro) 3 P a w K Q := by
  refine ⟨fun f _ => Fe_fn ro f, ?_⟩
  rw [semAt_same hd]
  cases h with
  | val v w' h => rw [h]; exact hk
  | skip w' h => rw [h]; exact hk

theorem Outs.same {c : Cf} {n : Nat} {hp : Heap} {x : V} {v : Value} (hH : RelH c n hp) (h : RelV c n x v) : Outs c n (x, n, hp) v c := ⟨.refl c n, Nat.le_refl n, hH, h⟩

theorem list_rel {c : Cf} {n : Nat} {f : Slots} {a : Act} (hs : RelS c n f a.tmps) (xs : Array Operand) : RelL c n (xs.toList.map (opV c.G f)) (xs.map a.eval).toList := by
  refine ⟨by simp, fun j x hj => ?_⟩
  simp only [List.getElem?_map] at hj
  obtain ⟨y, hy, rfl⟩ := Option.map_eq_some_iff.1 hj
  refine ⟨a.eval y, ?_, opV_rel hs y⟩
  simp only [Array.toList_map, List.getElem?_map, hy, Option.map_some]
theorem parts_rel {c : Cf} {n : Nat} {f : Slots} {a : Act} (hs : RelS c n f a.tmps) (ps : Array (Nat × Operand)) :
    (ps.map fun (i, x) => (i, a.eval x)).size = (ps.toList.map fun (i, x) => (i, opV c.G f x)).length ∧
    ∀ (j i : Nat) (x : V), (ps.toList.map fun (i, x) => (i, opV c.G f x))[j]? = some (i, x) → ∃ v, (ps.map fun (i, x) => (i, a.eval x))[j]? = some (i, v) ∧ RelV c n x v := by
  refine ⟨by simp, fun j i x hj => ?_⟩
  simp only [List.getElem?_map] at hj
  obtain ⟨⟨k, y⟩, hy, he⟩ := Option.map_eq_some_iff.1 hj
  simp only [Prod.mk.injEq] at he
  obtain ⟨rfl, rfl⟩ := he
  refine ⟨a.eval y, ?_, opV_rel hs y⟩
  rw [Array.getElem?_toList] at hy
  simp [hy]

theorem caps_rel {c : Cf} {n : Nat} {g : FuncId} {xs : List V} {vs : Array Value} (h : RelL c n xs vs.toList) :
    RelV c n (match allD xs with | some ds => .d (.fn g ds) | none => .fn g xs) (.func (.func g) #[] vs) := by
  obtain ⟨hl, hr⟩ := h
  have hget : ∀ (j : Nat) (x : V), xs[j]? = some x → RelV c n x (vs.getD j undef) := by
    intro j x hj
    obtain ⟨v, hv, hrv⟩ := hr j x hj
    rw [Array.getElem?_toList] at hv
    rw [Array.getD_eq_getD_getElem?, hv]; exact hrv
  split
  · rename_i ds hd
    have hm := allD_spec _ _ hd
    subst hm
    exact .d _ _ (.fn g ds vs (by simpa using hl) fun j d hj => (hget j (.d d) (by simp [hj])).inv_d)
  · exact .fn g xs vs (by simpa using hl) hget

theorem first_rel {c : Cf} {n : Nat} {g : FuncId} {xs : List V} {vs : Array Value} (h : RelL c n xs vs.toList) : RelV c n (.bm g xs) (.func (.func g) vs #[]) := by
  obtain ⟨hl, hr⟩ := h
  refine .bm g xs vs (by simpa using hl) fun j x hj => ?_
  obtain ⟨v, hv, hrv⟩ := hr j x hj
  rw [Array.getElem?_toList] at hv
  rw [Array.getD_eq_getD_getElem?, hv]; exact hrv
theorem nil_may {c : Cf} {n : Nat} {x : V} {v : Value} (hr : RelV c n x v) (hv : v = .nilIface) (hj : x ≠ .junk) : mayNil x = true := by
  subst hv
  cases hr with
  | d x v hd => cases hd <;> rfl
  | junk => exact absurd rfl hj
theorem binV_junk {op : BinOp} {t : TypeId} {x y r : V} (h : binV P op t x y = some r) : x ≠ .junk ∧ y ≠ .junk := by
  constructor
  · rintro rfl
    unfold binV at h
    cases op <;> simp [eqV] at h
  · rintro rfl
    unfold binV at h
    cases x with
    | d x => cases x <;> cases op <;> simp [eqV] at h
    | _ => cases op <;> simp [eqV] at h
theorem full_junk {hp : Heap} {x : V} (h : full hp x ≠ .junk) : x ≠ .junk := by
  rintro rfl; exact h rfl
theorem minV_sound {c : Cf} {n : Nat} {x y r : V} {vx vy : Value} (he : minV x y = some r) (hx : RelV c n x vx) (hy : RelV c n y vy) (w : World) (ts : Array TypeId) (ty : TypeId) :
    ∃ v, (Builtin.min_ ts ty #[vx, vy]).run P w = .ok v w ∧ RelV c n r v := by
  unfold minV at he
  split at he
  · rename_i k a k' b
    injection he with he
    subst he
    cases hx.inv_d
    cases hy.inv_d
    refine ⟨.int k (if b < a then b else a), by simp [Builtin.min_, Builtin.min2], ?_⟩
    by_cases h : b < a
    · rw [decide_eq_true h, if_pos h]; exact .d _ _ (.i k b)
    · rw [decide_eq_false h, if_neg h]; exact .d _ _ (.i k a)
  · cases he
theorem evOp_sound {h : Hs} {o : Oper} {f : Slots} {n : Nat} {hp : Heap} {a : Act} {c : Cf} {r : V × Nat × Heap} (hcf : callFree o.op = true) (he : evOp P h o f n hp = some r) (hG : h.G = c.G) (hs : RelS c n f a.tmps) (hH : RelH c n hp) : ∃ v c', Runs P o a c.w v c'.w ∧ Outs c n r v c' := by
  have hop : ∀ x, RelV c n (opV c.G f x) (a.eval x) := opV_rel hs
  have hof : ∀ x, RelV c n (full hp (opV c.G f x)) (a.eval x) := fun x => full_rel hH (hop x)
  have pv : ∀ {x : V} {v : Value}, (execOp a.eval o).run P c.w = .ok (.value v) c.w → RelV c n x v → r = (x, n, hp) → ∃ v c', Runs P o a c.w v c'.w ∧ Outs c n r v c' := by
    rintro x v h1 h2 rfl
    exact ⟨v, c, .val v _ h1, .same hH h2⟩
  unfold evOp at he
  simp only [hG] at he
  split at he <;> rename_i ho
  · injection he with he
    exact pv (by simp [execOp, ho]) (hop _) he.symm
  · injection he with he
    exact pv (by simp [execOp, ho]) (hop _) he.symm
  · -- pick
    rename_i cc x y
    have hc := hop cc
    split at he
    · rename_i t ht
      rw [ht] at hc
      injection he with he
      generalize hv : a.eval cc = v at hc
      cases hc.inv_d
      refine pv (v := if t then a.eval x else a.eval y) (x := bif t then opV c.G f x else opV c.G f y) (by cases t <;> simp [execOp, ho, hv, asBool]) ?_ he.symm
      cases t
      · exact hop y
      · exact hop x
    · cases he
  · obtain ⟨x, hx, rfl⟩ := pure1_some he
    rename_i op t xo yo yt
    have key : binV P op t (full hp (opV c.G f xo)) (full hp (opV c.G f yo)) = some x ∧ (¬ (a.eval xo = .nilIface ∧ a.eval yo = .nilIface) ∨ (nilConst xo || nilConst yo) = true) := by
      obtain ⟨hb, hx⟩ := cond_some hx
      refine ⟨hx, ?_⟩
      obtain ⟨j1, j2⟩ := binV_junk hx
      by_cases hn : (nilConst xo || nilConst yo) = true
      · exact .inr hn
      · rw [Bool.eq_false_iff.mpr hn] at hb
        simp only [Bool.false_or, Bool.not_eq_true', Bool.and_eq_false_iff] at hb
        refine .inl fun ⟨h1, h2⟩ => ?_
        have m1 := nil_may (hop xo) h1 (full_junk j1)
        have m2 := nil_may (hop yo) h2 (full_junk j2)
        rcases hb with hb | hb
        · rw [m1] at hb; cases hb
        · rw [m2] at hb; cases hb
    obtain ⟨hx, hg⟩ := key
    obtain ⟨v, h1, h2, h3⟩ := binV_sound hx (hof xo) (hof yo) c.w
    refine pv (v := v) ?_ h2 rfl
    have hgd : (eqGuard op t xo yo (a.eval xo) (a.eval yo)).run P c.w = .ok () c.w := by
      by_cases hq : isEq op = true
      · exact guard_of hg (h3 hq)
      · cases op <;> first | rfl | (exfalso; exact hq rfl)
    simp [execOp, ho, hgd, h1]
  · obtain ⟨x, hx, rfl⟩ := pure1_some he
    obtain ⟨v, h1, h2⟩ := unV_sound (P := P) hx (hop _) c.w
    exact pv (by simp [execOp, ho, h1]) h2 rfl
  · rename_i src dst xo
    have hx := hop xo
    split at he
    · rename_i s hs'
      rw [hs'] at hx
      generalize hv : a.eval xo = vx at hx
      cases hx.inv_d
      by_cases hd : strT P dst = true
      · rw [hd] at he
        obtain ⟨x, hx', rfl⟩ := pure1_some he
        simp only [convV] at hx'
        obtain ⟨hb, hx'⟩ := cond_some hx'
        injection hx' with hx'
        subst hx'
        rw [Bool.and_eq_true] at hb
        have h1 := strT_und hb.1
        have h2 := strT_und hb.2
        exact pv (v := .string s) (by simp [execOp, ho, hv, convert, run_underlying h1, run_underlying h2]) (.d _ _ (.s _)) rfl
      · rw [Bool.eq_false_iff.mpr hd] at he
        simp only [cond_false] at he
        split at he
        · rename_i e hel
          obtain ⟨hb, he⟩ := cond_some he
          injection he with he
          subst he
          simp only [Bool.and_eq_true, decide_eq_true_eq] at hb
          obtain ⟨⟨⟨hb1, hb2⟩, hb3⟩, hb4⟩ := hb
          obtain ⟨val, c', h1, h2⟩ := strToBytes_sound hH (strT_und hb1) (elemT_und hel) (intT_und hb2) s
          exact ⟨val, c', .val _ _ (by simp [execOp, ho, hv, h1]), h2⟩
        · cases he
    · rename_i k m hs'
      rw [hs'] at hx
      generalize hv : a.eval xo = vx at hx
      cases hx.inv_d
      obtain ⟨x, hx', rfl⟩ := pure1_some he
      simp only [convV] at hx'
      obtain ⟨hb, hx'⟩ := cond_some hx'
      obtain ⟨k0, hk0⟩ := Option.isSome_iff_exists.1 hb
      obtain ⟨k', hk, rfl⟩ := Option.map_eq_some_iff.1 hx'
      have hd := intT_und hk
      have hd0 := intT_und hk0
      exact pv (v := .int k' (k'.wrap m)) (by simp [execOp, ho, hv, convert, run_underlying hd, run_underlying hd0, Conv.intToInt]) (.d _ _ (.i _ _)) rfl
    · split at he
      · rename_i e hel
        obtain ⟨hb, he⟩ := cond_some he
        rw [Bool.and_eq_true, decide_eq_true_eq] at hb
        split at he
        · rename_i w xs hsl
          obtain ⟨hw, he⟩ := cond_some he
          obtain ⟨x, hx', rfl⟩ := pure1_some he
          obtain ⟨l, hl, rfl⟩ := Option.map_eq_some_iff.1 hx'
          have hw' : w = 1 ∨ xs.xs = [] := by rw [Ls.nil_xs] at hw; simpa using hw
          have h1 := bytesToStr_sound hH (elemT_und hel) (intT_und hb.2) (strT_und hb.1) hsl hw' (strL_xs hl) hx
          exact pv (by simp [execOp, ho, h1]) (.d _ _ (.s _)) rfl
        · cases he
      · cases he
  · obtain ⟨x, hx, rfl⟩ := pure1_some he
    obtain ⟨v, h1, h2⟩ := extractV_sound (P := P) hx (hop _) c.w
    exact pv (by simp [execOp, ho, h1]) h2 rfl
  · obtain ⟨x, hx, rfl⟩ := pure1_some he
    obtain ⟨v, h1, h2⟩ := fieldV_sound hx (hop _) c.w
    exact pv (by simp [execOp, ho, h1]) h2 rfl
  · obtain ⟨x, hx, rfl⟩ := pure1_some he
    obtain ⟨v, h1, h2⟩ := fieldAddrV_sound hx (hop _) c.w
    exact pv (by simp [execOp, ho, h1]) h2 rfl
  · obtain ⟨x, hx, rfl⟩ := pure1_some he
    obtain ⟨v, h1, h2⟩ := indexV_sound hx (hop _) (hop _) c.w
    exact pv (by simp [execOp, ho, h1]) h2 rfl
  · obtain ⟨x, hx, rfl⟩ := pure1_some he
    obtain ⟨v, h1, h2⟩ := indexAddrV_sound hx (hof _) (hop _) c.w
    exact pv (by simp [execOp, ho, h1]) h2 rfl
  · rename_i xo
    have hx := hop xo
    have go : ∀ v : Value, (match v with | .pointer none | .nilIface | .nilFunc | .func (.method _) _ _ => False | _ => True) → a.eval xo = v → r = (opV c.G f xo, n, hp) → ∃ v c', Runs P o a c.w v c'.w ∧ Outs c n r v c' := by
      intro v hv he hr
      refine pv (v := v) ?_ (he ▸ hx) hr
      unfold execOp
      rw [ho]
      simp only [he]
      split <;> simp_all
    split at he
    · rename_i hs'
      injection he with he
      rw [hs'] at hx go
      generalize hv : a.eval xo = vx at hx
      cases hx
      exact go _ trivial hv he.symm
    · rename_i hs'
      injection he with he
      rw [hs'] at hx go
      generalize hv : a.eval xo = vx at hx
      cases hx
      exact go _ trivial hv he.symm
    · rename_i hs'
      injection he with he
      rw [hs'] at hx go
      generalize hv : a.eval xo = vx at hx
      cases hx
      exact go _ trivial hv he.symm
    · rename_i hs'
      injection he with he
      rw [hs'] at hx go
      generalize hv : a.eval xo = vx at hx
      cases hx
      exact go _ trivial hv he.symm
    · rename_i hs'
      injection he with he
      rw [hs'] at hx go
      generalize hv : a.eval xo = vx at hx
      cases hx
      exact go _ trivial hv he.symm
    · rename_i hs'
      injection he with he
      rw [hs'] at hx go
      generalize hv : a.eval xo = vx at hx
      cases hx.inv_d
      exact go _ trivial hv he.symm
    · cases he
  · obtain ⟨x, hx, rfl⟩ := pure1_some he
    obtain ⟨hp1, hp2⟩ := parts_rel hs (by assumption)
    obtain ⟨v, h1, h2⟩ := buildV_sound hx hp1 hp2 c.w
    exact pv (by simp [execOp, ho, h1]) h2 rfl
  · rename_i g first captured
    cases hb : first.isEmpty with
    | true =>
      rw [hb] at he
      injection he with h2
      have hf : first = #[] := by simpa [Array.isEmpty_iff] using hb
      subst hf
      exact pv (v := .func (.func g) #[] (captured.map a.eval)) (by simp [execOp, ho, Instr.makeFunc]) (caps_rel (list_rel hs captured)) h2.symm
    | false =>
      rw [hb] at he
      obtain ⟨hb, h2⟩ := cond_some he
      injection h2 with h2
      have hf : captured = #[] := by simpa [Array.isEmpty_iff] using hb
      subst hf
      exact pv (v := .func (.func g) (first.map a.eval) #[]) (by simp [execOp, ho, Instr.makeFunc]) (first_rel (list_rel hs first)) h2.symm
  · split at he
    · rename_i len el z hb
      injection he with he
      subst he
      obtain ⟨val, c', h1, h2⟩ := allocBig_sound hH hb fun zz hz => by
        obtain ⟨i, zv, hi, hzv, hzd, hzr⟩ := zeroD_val hz
        exact ofValueD_tp hzd
      exact ⟨val, c', .val _ _ (by simp [execOp, ho, h1]), h2⟩
    · split at he
      · rename_i z hz
        injection he with he
        subst he
        obtain ⟨i, zv, hi, hzv, hzd, hzr⟩ := zeroD_val hz
        obtain ⟨val, c', h1, h2⟩ := alloc_sound hH hz (ofValueD_tp hzd)
        exact ⟨val, c', .val _ _ (by simp [execOp, ho, h1]), h2⟩
      · cases he
  · obtain ⟨hb, he⟩ := cond_some he
    injection he with he
    subst he
    rename_i e xo
    obtain ⟨val, c', h1, h2⟩ := box_sound (P := P) hH e (hop xo) hb
    exact ⟨val, c', .val _ _ (by simp [execOp, ho, h1]), h2⟩
  · obtain ⟨x, hx, rfl⟩ := pure1_some he
    obtain ⟨v, h1, h2⟩ := loadV_sound hH hx (hop _)
    exact pv (by simp [execOp, ho, h1]) h2 rfl
  · split at he
    · rename_i hp' hst
      injection he with he
      subst he
      obtain ⟨c', h1, h2, h3⟩ := storeV_sound hH hst (hop _) (hop _)
      exact ⟨undef, c', .skip _ (by simp [execOp, ho, h1]), h2, Nat.le_refl n, h3, .junk _⟩
    · cases he
  · obtain ⟨x, hx, rfl⟩ := pure1_some he
    obtain ⟨v, h1, h2⟩ := sliceV_sound hx hs (hof _) c.w
    exact pv (by simp [execOp, ho, h1]) h2 rfl
  · obtain ⟨hp1, hp2⟩ := parts_rel hs (by assumption)
    obtain ⟨val, c', h1, h2⟩ := buildSliceV_sound hH he hp1 hp2
    exact ⟨val, c', .val _ _ (by simp [execOp, ho, h1]), h2⟩
  · obtain ⟨val, c', h1, h2⟩ := makeSliceV_sound hH he (hop _) (hop _)
    exact ⟨val, c', .val _ _ (by simp [execOp, ho, h1]), h2⟩
  · obtain ⟨val, c', h1, h2⟩ := makeMapV_sound hH he
    exact ⟨val, c', .val _ _ (by simp [execOp, ho, h1]), h2⟩
  · obtain ⟨x, hx, rfl⟩ := pure1_some he
    obtain ⟨v, h1, h2⟩ := lookupV_sound hH hx (hop _) (hop _)
    exact pv (by simp [execOp, ho, h1]) h2 rfl
  · split at he
    · rename_i hp' hu
      injection he with he
      subst he
      obtain ⟨c', h1, h2, h3⟩ := updateV_sound hH hu (hop _) (hop _) (hop _)
      exact ⟨undef, c', .skip _ (by simp [execOp, ho, h1]), h2, Nat.le_refl n, h3, .junk _⟩
    · cases he
  · split at he
    · rename_i hp' hu
      injection he with he
      subst he
      obtain ⟨c', h1, h2, h3⟩ := updateV_sound hH hu (hop _) (hop _) (hop _)
      exact ⟨undef, c', .skip _ (by simp [execOp, ho, h1]), h2, Nat.le_refl n, h3, .junk _⟩
    · cases he
  · obtain ⟨val, c', h1, h2⟩ := rangeV_sound hH (hop _) he
    exact ⟨val, c', .val _ _ (by simp [execOp, ho, h1]), h2⟩
  · obtain ⟨val, c', h1, h2⟩ := nextV_sound (P := P) hH (t := o.type) (hop _) he
    exact ⟨val, c', .val _ _ (by simp [execOp, ho, h1]), h2⟩
  · rename_i cl
    split at he <;> rename_i hcl
    · split at he
      · rename_i x t hxs hts
        obtain ⟨y, hy, rfl⟩ := pure1_some he
        obtain ⟨v, h1, h2⟩ := lenV_sound (ty := o.type) hy (hof _) c.w
        have ha : cl.args = #[x] := by rw [← Array.toList_inj, hxs]
        have hat : cl.argTypes = #[t] := by rw [← Array.toList_inj, hts]
        exact pv (by simp [execOp, ho, resolve, hcl, ha, hat, invoke, builtin, h1]) h2 rfl
      · cases he
    · split at he
      · rename_i s x t u hxs hts
        obtain ⟨val, c', h1, h2⟩ := appendV_sound (ty := o.type) hH he (hop _) (hop _)
        have ha : cl.args = #[s, x] := by rw [← Array.toList_inj, hxs]
        have hat : cl.argTypes = #[t, u] := by rw [← Array.toList_inj, hts]
        exact ⟨val, c', .val _ _ (by simp [execOp, ho, resolve, hcl, ha, hat, invoke, builtin, h1]), h2⟩
      · cases he
    · split at he
      · rename_i x t hxs hts
        obtain ⟨val, c', h1, h2⟩ := clearV_sound (ty := o.type) hH he (hof _)
        have ha : cl.args = #[x] := by rw [← Array.toList_inj, hxs]
        have hat : cl.argTypes = #[t] := by rw [← Array.toList_inj, hts]
        exact ⟨val, c', .val _ _ (by simp [execOp, ho, resolve, hcl, ha, hat, invoke, builtin, h1]), h2⟩
      · cases he
    · split at he
      · rename_i x y hxs
        obtain ⟨z, hz, rfl⟩ := pure1_some he
        obtain ⟨v, h1, h2⟩ := minV_sound (P := P) hz (hop _) (hop _) c.w cl.argTypes o.type
        have ha : cl.args = #[x, y] := by rw [← Array.toList_inj, hxs]
        exact pv (by simp [execOp, ho, resolve, hcl, ha, invoke, builtin, h1]) h2 rfl
      · cases he
    · rw [ho] at hcf
      simp [callFree, hcl] at hcf
    · cases he
  · cases he
end Go.Fw
end
section
set_option linter.unusedVariables false
set_option linter.unusedSimpArgs false
namespace Go.Fw
variable {P : Program}
def markOf (b : Nat) : Deferred := { target := .collected b, args := #[] }
def Marks (lo : Nat) (c : Cf) (ds : List Deferred) : Prop := lo ≤ c.w.heap.size ∧ ∃ bs : List Nat, ds = bs.map markOf ∧ bs.Nodup ∧ ∀ b ∈ bs, lo ≤ b ∧ DefAt c b
theorem Marks.nil {lo : Nat} {c : Cf} (h : lo ≤ c.w.heap.size) : Marks lo c [] := ⟨h, [], rfl, List.nodup_nil, fun b hb => by cases hb⟩
theorem Marks.mono {lo n : Nat} {c c' : Cf} {ds : List Deferred} (h : Marks lo c ds) (hx : Ext c n c') : Marks lo c' ds := by
  obtain ⟨h0, bs, h1, h2, h3⟩ := h
  exact ⟨Nat.le_trans h0 hx.size, bs, h1, h2, fun b hb => ⟨(h3 b hb).1, hx.defs b (h3 b hb).2⟩⟩
theorem Marks.on {lo : Nat} {c c' : Cf} {ds : List Deferred} (h : Marks lo c ds) (hs : c.w.heap.size ≤ c'.w.heap.size) (hd : ∀ b, DefAt c b → DefAt c' b) : Marks lo c' ds := by
  obtain ⟨h0, bs, h1, h2, h3⟩ := h
  exact ⟨Nat.le_trans h0 hs, bs, h1, h2, fun b hb => ⟨(h3 b hb).1, hd b (h3 b hb).2⟩⟩
theorem Marks.push {lo n : Nat} {c c' : Cf} {ds : List Deferred} (h : Marks lo c ds) (hx : Ext c n c') (hb : DefAt c' c.w.heap.size) : Marks lo c' (markOf c.w.heap.size :: ds) := by
  obtain ⟨h0, bs, h1, h2, h3⟩ := h
  refine ⟨Nat.le_trans h0 hx.size, c.w.heap.size :: bs, by rw [h1]; rfl, List.nodup_cons.2 ⟨fun hm => ?_, h2⟩, fun b hb' => ?_⟩
  · have := (Array.getElem?_eq_some_iff.1 (h3 _ hm).2.1).1
    omega
  · rcases List.mem_cons.1 hb' with rfl | hb'
    · exact ⟨h0, hb⟩
    · exact ⟨(h3 b hb').1, hx.defs b (h3 b hb').2⟩
structure SR (G : Nat → Option (List D)) (lo nt : Nat) (c : Cf) (st : St) (a : Act) : Prop where
  g : c.G = G
  s : RelS c st.n st.f a.tmps
  h : RelH c st.n st.h
  size : nt ≤ a.tmps.size
  defers : Marks lo c a.defers
def exitOf : X → Exit
  | .n => .normal
  | .ret => .ret
  | .exit id => .exit id
def OkR (ro : Option Nat) (code : Code) : Prop := ro = none ∨ okRound code = true
def CodeOK (P : Program) (G : Nat → Option (List D)) (nt : Nat) (code : Code) (st : St) (r : X × St) : Prop :=
  ∀ (ro : Option Nat), OkR ro code → ∀ (lo : Nat) (c : Cf) (a : Act) (Q : Exit → Act → World → Prop), SR G lo nt c st a → (∀ a' c', Ext c st.n c' → st.n ≤ r.2.n → SR G lo nt c' r.2 a' → Q (exitOf r.1) a' c'.w) → code.wpIn (Fe ro) 3 P Q a c.w

theorem opsN_ok {nt : Nat} : ∀ {os : List Oper}, (os.all fun o => match o.dst with | some d => Nat.blt d nt | none => true) = true ↔ opsN os ≤ nt
  | [] => by simp [opsN]
  | o :: os => by
    have ih := opsN_ok (nt := nt) (os := os)
    rw [List.all_cons, Bool.and_eq_true, ih]
    cases hd : o.dst with
    | none => simp [opsN, hd]
    | some d =>
      simp only [opsN, hd, Nat.blt_eq]
      rw [Nat.max_le]
      exact Iff.rfl
theorem psN_ok {nt : Nat} : ∀ {ps : List Nat}, (ps.all fun p => Nat.blt p nt) = true ↔ psN ps ≤ nt
  | [] => by simp [psN]
  | p :: ps => by
    have ih := psN_ok (nt := nt) (ps := ps)
    rw [List.all_cons, Bool.and_eq_true, ih]
    simp only [psN, Nat.blt_eq]
    rw [Nat.max_le]
    exact Iff.rfl
theorem okCode_iff {nt : Nat} : ∀ (c : Code), okCode nt c = true ↔ ntC c ≤ nt
  | .region _ ops _ => opsN_ok
  | .seq a b => by simp only [okCode, ntC, Bool.and_eq_true, okCode_iff a, okCode_iff b]; omega
  | .cond _ a b => by simp only [okCode, ntC, Bool.and_eq_true, okCode_iff a, okCode_iff b]; omega
  | .block _ c => okCode_iff c
  | .loop c => okCode_iff c
  | .rangeFunc _ ps a b => by simp only [okCode, ntC, Bool.and_eq_true, okCode_iff a, okCode_iff b, psN_ok]; omega
  | .skip => by simp [okCode, ntC]
  | .exit _ => by simp [okCode, ntC]
  | .ret => by simp [okCode, ntC]
  | .scope _ => by simp [okCode, ntC]
  | .label _ => by simp [okCode, ntC]
  | .goto _ => by simp [okCode, ntC]
  | .refuse _ => by simp [okCode, ntC]
theorem Fe_in (ro : Option Nat) (l : Nat) : (Fe ro).inRound l = Fe (some l) := by cases ro <;> rfl
theorem Fe_room (ro : Option Nat) (k : Nat) : (Fe ro).room k := by cases ro <;> (intro d hd; cases hd)
theorem round_depth {ro : Option Nat} {n m : Nat} {l : Nat} {f : FuncId} {tmps : Array Value} {assign body : Code} {w : World} {R : Ending → World → Prop} (h : RoundIn (Fe ro) n P l f tmps assign body w R) : RoundIn (Fe ro) m P l f tmps assign body w R :=
  ⟨h.1, fun c cs _ => h.2 c cs (Fe_room ro _)⟩
theorem get_entry : ∀ (sl : Slots) (i : Nat), get sl i = .junk ∨ ∃ j : Nat, sl[j]? = some (i, get sl i)
  | [], i => .inl rfl
  | (k, v) :: r, i => by
    rw [get_cons]
    by_cases hk : k = i
    · subst hk; rw [if_pos rfl]; exact .inr ⟨0, rfl⟩
    · rw [if_neg hk]
      rcases get_entry r i with h | ⟨j, h⟩
      · exact .inl h
      · exact .inr ⟨j + 1, h⟩
theorem slots_rel {c : Cf} {n : Nat} {sl : Slots} {tm : Array Value} (hg : Glob c) (h : ∀ (j : Nat) (x : Nat × V), sl[j]? = some x → RelV c n x.2 (tm.getD x.1 undef)) : RelS c n sl tm := by
  refine ⟨hg, fun i => ?_⟩
  rcases get_entry sl i with e | ⟨j, e⟩
  · rw [e]; exact .junk _
  · exact h j _ e
theorem keepS_rel {c : Cf} {n : Nat} {f : Slots} {tm : Array Value} (h : RelS c n f tm) : ∀ (ts : List Nat) (j : Nat) (x : Nat × V), (keepS ts f)[j]? = some x → RelV c n x.2 (tm.getD x.1 undef)
  | [], j, x, hx => by simp [keepS] at hx
  | t :: ts, j, x, hx => by
    unfold keepS at hx
    split at hx
    · exact keepS_rel h ts j x hx
    · match j, hx with
      | 0, hx => injection hx with hx; subst hx; exact h.get t
      | j + 1, hx => exact keepS_rel h ts j x hx
theorem psPut_rel {c : Cf} {n : Nat} : ∀ (ps : List Nat) (xs : List V) (vs : List Value) (f : Slots) (tm : Array Value), ps.length = xs.length → RelL c n xs vs → RelS c n f tm → (∀ p ∈ ps, p < tm.size) →
    RelS c n (psPut ps xs f) ((ps.zip vs).foldl (fun t (pv : Nat × Value) => t.setIfInBounds pv.1 pv.2) tm) ∧ ((ps.zip vs).foldl (fun t (pv : Nat × Value) => t.setIfInBounds pv.1 pv.2) tm).size = tm.size
  | [], [], vs, f, tm, _, _, h, _ => ⟨h, rfl⟩
  | p :: ps, x :: xs, [], f, tm, _, hL, _, _ => by have := hL.1; simp at this
  | p :: ps, x :: xs, v :: vs, f, tm, hl, hL, h, hp => by
    have h0 : RelV c n x v := by
      obtain ⟨v', hv, hr⟩ := hL.2 0 x rfl
      injection hv with hv
      rw [hv]; exact hr
    have hL' : RelL c n xs vs := ⟨by have := hL.1; simpa using this, fun j y hy => by
      obtain ⟨v', hv, hr⟩ := hL.2 (j + 1) y hy
      exact ⟨v', hv, hr⟩⟩
    have h1 := RelS.put (a := { tmps := tm, defers := [] }) h h0 (hp p (List.mem_cons_self ..))
    obtain ⟨h2, h3⟩ := psPut_rel ps xs vs ((p, x) :: f) (tm.setIfInBounds p v) (by simpa using hl) hL' h1 (fun q hq => by rw [Array.size_setIfInBounds]; exact hp q (List.mem_cons_of_mem _ hq))
    exact ⟨h2, h3.trans (Array.size_setIfInBounds ..)⟩
theorem zip_foldl (ps : Array Tmp) (vs tm : Array Value) : (ps.zip vs).foldl (fun tmps (t, a) => tmps.setIfInBounds t a) tm = (ps.toList.zip vs.toList).foldl (fun t (pv : Nat × Value) => t.setIfInBounds pv.1 pv.2) tm := by
  rw [← Array.foldl_toList, Array.toList_zip]
theorem lp_rec {c : Cf} {n : Nat} {hp : Heap} (hH : RelH c n hp) {id : Nat} {s : LSt} (h : lk hp id = .ot (.lp s)) : ∃ r, c.w.heap[c.bk id]? = some (.loop r) ∧ LRel s r := hH.ot id _ h
theorem lp_put {c : Cf} {n : Nat} {hp : Heap} (hH : RelH c n hp) {id : Nat} {s s' : LSt} (h : lk hp id = .ot (.lp s)) {r r' : Loop} (hr : c.w.heap[c.bk id]? = some (.loop r)) (hs : r'.fn = r.fn ∧ r'.tmps = r.tmps ∧ r'.params = r.params ∧ r'.assign = r.assign ∧ r'.body = r.body ∧ r'.defers = r.defers) (hL : LRel s' r') :
    Ext c n (c.put (c.bk id) (.loop r')) ∧ RelH (c.put (c.bk id) (.loop r')) n ((id, .ot (.lp s')) :: hp) := by
  have ho : (lk hp id).own = true := by rw [h]; rfl
  have hx : Ext c n (c.put (c.bk id) (.loop r')) := ext_put hr (fun _ _ _ h => by cases h) (fun r0 h => by injection h with h; subst h; exact ⟨r', rfl, hs⟩) (hH.own id ho) (hH.ownK id ho)
  exact ⟨hx, relH_put hH ho hx ⟨r', put_same (Array.getElem?_eq_some_iff.1 hr).1, hL⟩⟩
theorem roundV_sound {ro : Option Nat} {h : Hs} (hcode : ∀ nt code st r, okCode nt code = true → h.code nt code st = some r → CodeOK P h.G nt code st r) {id : Nat} {sl : Slots} {ps : List Nat} {assign body : Code} {xs : List V} {n : Nat} {hp : Heap} {r : V × Nat × Heap}
    (he : roundV h id sl ps assign body xs n hp = some r) {c : Cf} (hG : h.G = c.G) (hg : Glob c) (hH : RelH c n hp) {vs : Array Value} (hL : RelL c n xs vs.toList) {tm : Array Value} (hl : LoopIs c.w (c.bk id) ps assign body tm) (hk : ydN ps assign body ≤ tm.size)
    (hsl : ∀ (j : Nat) (x : Nat × V), sl[j]? = some x → RelV c n x.2 (tm.getD x.1 undef)) (m : Nat) :
    ∃ rc : Loop, c.w.heap[c.bk id]? = some (.loop rc) ∧ vs.size = rc.params.size ∧ RoundIn (Fe ro) m P (c.bk id) rc.fn ((rc.params.zip vs).foldl (fun tmps (t, a) => tmps.setIfInBounds t a) rc.tmps) rc.assign rc.body c.w
      fun e w' => ∃ v c', e = .returned v ∧ w' = c'.w ∧ Outs c n r v c' := by
  obtain ⟨rc, hrc, rfl, rfl, rfl, rfl⟩ := hl
  unfold roundV at he
  split at he
  · rename_i hlk
    obtain ⟨hb, he⟩ := cond_some he
    simp only [Bool.and_eq_true, beq_iff_eq] at hb
    obtain ⟨hlen, hra, hrb⟩ := hb
    have hps : ∀ p ∈ rc.params.toList, Nat.blt p rc.tmps.size = true := List.all_eq_true.1 (psN_ok.2 (by unfold ydN at hk; omega))
    have hka : okCode (ydN rc.params.toList rc.assign rc.body) rc.assign = true := (okCode_iff _).2 (by unfold ydN; omega)
    have hkb : okCode (ydN rc.params.toList rc.assign rc.body) rc.body = true := (okCode_iff _).2 (by unfold ydN; omega)
    have hvs : vs.size = rc.params.size := by have := hL.1; simp at this hlen; omega
    refine ⟨rc, hrc, hvs, round_depth (n := 3) (roundIn_of_wpIn (Fe_fn ro rc.fn) ?_)⟩
    rw [Fe_in, zip_foldl]
    have hS := slots_rel (n := n) hg hsl
    obtain ⟨hS1, hsz⟩ := psPut_rel rc.params.toList xs vs.toList sl rc.tmps hlen.symm hL hS fun p hp => by have := hps p hp; rw [Nat.blt_eq] at this; exact this
    split at he
    · rename_i st1 h1
      split at he
      · rename_i hlk1
        split at he
        · rename_i x st2 h2
          split at he
          · rename_i hlk2
            have hr0 : SR h.G 0 (ydN rc.params.toList rc.assign rc.body) c ⟨psPut rc.params.toList xs sl, n, hp⟩ { tmps := (rc.params.toList.zip vs.toList).foldl (fun t (pv : Nat × Value) => t.setIfInBounds pv.1 pv.2) rc.tmps, defers := [] } :=
              ⟨hG.symm, hS1, hH, by show _ ≤ Array.size _; rw [hsz]; exact hk, .nil (Nat.zero_le _)⟩
            refine hcode _ _ _ _ hka h1 (some (c.bk id)) (.inr hra) 0 c _ _ hr0 fun a1 c1 hx1 hn1 hr1 => ?_
            show ∃ w₂, _ ∧ _
            have hid : id < n := hH.lt id (by rw [hlk]; simp)
            have hbk1 : c1.bk id = c.bk id := hx1.bk id hid
            obtain ⟨r1, hr1b, hst1, hp1⟩ := lp_rec hr1.h hlk1
            obtain ⟨hx2, hH2⟩ := lp_put (s' := .busy) (r' := { r1 with state := .busy }) hr1.h hlk1 hr1b ⟨rfl, rfl, rfl, rfl, rfl, rfl⟩ rfl
            refine ⟨(c1.put (c1.bk id) (.loop { r1 with state := .busy })).w, by rw [← hbk1]; exact run_beginRound hr1b hst1, ?_⟩
            have hr2 : SR h.G 0 (ydN rc.params.toList rc.assign rc.body) (c1.put (c1.bk id) (.loop { r1 with state := .busy })) ⟨st1.f, st1.n, (id, .ot (.lp .busy)) :: st1.h⟩ a1 :=
              ⟨hr1.g, hr1.s.mono hx2 (Nat.le_refl _), hH2, hr1.size, hr1.defers.mono hx2⟩
            have hn1' : n ≤ st1.n := hn1
            have hx12 := hx1.trans hx2 hn1'
            refine hcode _ _ _ _ hkb h2 (some (c.bk id)) (.inr hrb) 0 _ a1 _ hr2 fun a3 c3 hx3 hn3 hr3 => ?_
            have hn3' : st1.n ≤ st2.n := hn3
            have hx13 : Ext c n c3 := hx12.trans hx3 hn1'
            have hbk3 : c3.bk id = c.bk id := hx13.bk id hid
            obtain ⟨r3, hr3b, hst3⟩ := lp_rec hr3.h hlk2
            have fin : ∀ (j : Option Code) (s' : LSt) (v : D) (b : Bool), v = .b b → j.isNone = b → LRel s' { r3 with state := if j.isNone then .ready else .done, pending := j } → r = (.d v, st2.n, (id, .ot (.lp s')) :: st2.h) →
                ∃ v w', (Instr.endRound (c.bk id) j).run P c3.w = .ok v w' ∧ ∃ v' c', Ending.returned v = .returned v' ∧ w' = c'.w ∧ Outs c n r v' c' := by
              rintro j s' v b rfl hj hLR rfl
              obtain ⟨hx4, hH4⟩ := lp_put (s' := s') (r' := { r3 with state := if j.isNone then .ready else .done, pending := j }) hr3.h hlk2 hr3b ⟨rfl, rfl, rfl, rfl, rfl, rfl⟩ hLR
              refine ⟨.bool j.isNone, (c3.put (c3.bk id) (.loop { r3 with state := if j.isNone then .ready else .done, pending := j })).w, by rw [← hbk3]; exact run_endRound j hr3b, _, _, rfl, rfl, hx13.trans hx4 (Nat.le_trans hn1' hn3'), Nat.le_trans hn1' hn3', hH4, ?_⟩
              rw [hj]; exact .d _ _ (.b b)
            cases x with
            | n =>
              injection he with he
              exact fin none .ready (.b true) true rfl rfl ⟨rfl, rfl⟩ he.symm
            | ret =>
              injection he with he
              exact fin (some .ret) (.done .ret) (.b false) false rfl rfl ⟨rfl, rfl⟩ he.symm
            | exit k =>
              injection he with he
              exact fin (some (.exit k)) (.done (.exit k)) (.b false) false rfl rfl ⟨rfl, rfl⟩ he.symm
          · cases he
        · cases he
      · cases he
    · cases he
  · cases he
end Go.Fw
end
section
set_option linter.unusedVariables false
set_option linter.unusedSimpArgs false
namespace Go.Fw
variable {P : Program}

def FrOK (w : World) (I K : Mem) (wd : Nat) (xs : List D) (v : Value) : Prop :=
  ∃ (a : Addr) (cap : Nat), v = .slice (some a) xs.length cap ∧ xs.length ≤ cap ∧ a.spot = none ∧ (a.off = 0 ∨ cap = 0) ∧ ¬ I a.block ∧ ¬ K a.block ∧
    Arr ⟨w, I, K, fun _ => a.block, fun _ => xs.length, fun _ => none⟩ 0 wd xs ∧ ∃ cs e fz, w.heap[a.block]? = some (.cells cs e fz) ∧ cap * wd ≤ cs.size ∧ a.off ≤ cs.size
def RelT (w : World) (I K : Mem) : D → Value → Prop
  | .fr wd xs, v => FrOK w I K wd xs.xs v ∨ (wd = 0 ∧ xs.xs = [] ∧ ∃ ad, v = .slice ad 0 0)
  | d, v => RelD w I d v
def frB : D → Value → Option Nat
  | .fr wd _, .slice (some a) _ _ => bif Nat.beq wd 0 then none else some a.block
  | _, _ => none
def RelTs (w : World) (I K : Mem) : List D → List Value → Prop
  | [], [] => True
  | d :: ds, v :: vs => RelT w I K d v ∧ RelTs w I K ds vs ∧ ∀ b, frB d v = some b → ∀ (j : Nat) (d' : D) (v' : Value), ds[j]? = some d' → vs[j]? = some v' → frB d' v' ≠ some b
  | _, _ => False
def RelX (w : World) (I K : Mem) : D → Value → Prop
  | .tp ds, v => ∃ vs : Array Value, v = .tuple vs ∧ RelTs w I K ds vs.toList
  | d, v => RelT w I K d v

theorem beq0 {n : Nat} (h : 0 < n) : Nat.beq n 0 = false := by
  cases n with
  | zero => omega
  | succ n => rfl
theorem Arr.pos {c : Cf} {id wd : Nat} {xs : List D} (h : Arr c id wd xs) : 0 < wd := by
  obtain ⟨_, _, _, _, _, _, _, h, _⟩ := h
  exact h
theorem FrOK.pos {w : World} {I K : Mem} {wd : Nat} {xs : List D} {v : Value} (h : FrOK w I K wd xs v) : 0 < wd := by
  obtain ⟨_, _, _, _, _, _, _, _, h, _⟩ := h
  exact h.pos
def isFr : D → Bool
  | .fr _ _ => true
  | _ => false
theorem RelT.of_rel {w : World} {I K : Mem} {d : D} {v : Value} (h : RelD w I d v) : RelT w I K d v := by
  cases d <;> first | exact h | cases h
theorem frz_noFr {hp hp' : Heap} {v : V} {d : D} (h : frz hp v = some (d, hp')) (hv : ∀ x, v = .d x → isFr x = false) : isFr d = false := by
  cases v <;> simp only [frz] at h
  case d x => injection h with h; injection h with h1 h2; subst h1; exact hv x rfl
  case ag cs =>
    split at h
    · injection h with h; injection h with h1 h2; subst h1; rfl
    · cases h
  case fn g cs =>
    split at h
    · injection h with h; injection h with h1 h2; subst h1; rfl
    · cases h
  case ms =>
    split at h
    · obtain ⟨_, h⟩ := cond_some h; injection h with h; injection h with h1 h2; subst h1; rfl
    · obtain ⟨_, h⟩ := cond_some h; injection h with h; injection h with h1 h2; subst h1; rfl
    · cases h
  case mf =>
    split at h
    · obtain ⟨_, h⟩ := cond_some h; injection h with h; injection h with h1 h2; subst h1; rfl
    · obtain ⟨_, h⟩ := cond_some h; injection h with h; injection h with h1 h2; subst h1; rfl
    · cases h
  case fl => injection h with h; injection h with h1 h2; subst h1; rfl
  all_goals cases h

theorem rel_noFr {c : Cf} {n : Nat} {v : V} {val : Value} (h : RelV c n v val) : ∀ x, v = .d x → isFr x = false := by
  rintro x rfl
  have := h.inv_d
  cases x <;> first | rfl | cases this

theorem expTop_sound {c : Cf} {n : Nat} {hp hp' : Heap} {v : V} {d : D} {val : Value} (h : expTop hp v = some (d, hp')) (hH : RelH c n hp) (hv : RelV c n v val) :
    ∃ c', Frz c n hp hp' c' ∧ RelT c'.w c'.I c'.K d val ∧ ∀ b, frB d val = some b → (∀ id, (lk hp' id).own = true → c'.bk id ≠ b) ∧ ∃ id, (lk hp id).own = true ∧ c.bk id = b := by
  have plain : frz hp v = some (d, hp') → ∃ c', Frz c n hp hp' c' ∧ RelT c'.w c'.I c'.K d val ∧ ∀ b, frB d val = some b → (∀ id, (lk hp' id).own = true → c'.bk id ≠ b) ∧ ∃ id, (lk hp id).own = true ∧ c.bk id = b := by
    intro h
    obtain ⟨c', hF, hr⟩ := frz_sound v c hp hp' d val h hH hv
    refine ⟨c', hF, .of_rel hr, fun b hb => ?_⟩
    have hn := frz_noFr h (rel_noFr hv)
    cases d <;> first | cases hb | cases hn
  unfold expTop at h
  split at h
  · rename_i id w off len
    split at h
    · rename_i w' xs hl
      rw [Ls.len_xs] at h
      by_cases hc : (off == 0 && len == xs.xs.length && w == w') = true
      · rw [hc] at h
        injection h with h
        injection h with h1 h2
        subst h1
        subst h2
        simp only [Bool.and_eq_true, beq_iff_eq] at hc
        obtain ⟨⟨rfl, rfl⟩, rfl⟩ := hc
        have ho : (lk hp id).own = true := by rw [hl]; rfl
        have hid : id < n := hH.lt id (by rw [hl]; simp)
        have hF : Frz c n hp ((id, .dead) :: hp) c := ⟨rfl, rfl, .refl c n, relH_dead hH hid, fun _ h => .inl h, fun id' h' => by
          rw [lk_cons] at h'
          split at h'
          · cases h'
          · exact h'⟩
        cases hv with
        | ms _ _ _ _ cap a hid' hcap ha hb ho' hs =>
          obtain ⟨cs, e, fz, h1, h2, h3⟩ := hs
          refine ⟨c, hF, .inl ⟨a, cap, rfl, hcap, ha, by simpa using ho', by rw [hb]; exact hH.own id ho, by rw [hb]; exact hH.ownK id ho, ?_, cs, e, fz, by rw [hb]; exact h1, by simpa using h2, h3⟩, fun b hb' => ?_⟩
          · refine ⟨rfl, ?_⟩
            rw [hb]
            exact (hH.arr id w xs hl).2
          · simp only [frB, beq0 (hH.arr id w xs hl).pos, cond_false, Option.some.injEq] at hb'
            rw [hb] at hb'
            refine ⟨fun id' h' he => ?_, id, ho, hb'⟩
            rw [lk_cons] at h'
            split at h'
            · cases h'
            · rename_i hne
              exact hne (hH.inj id id' ho h' (hb'.trans he.symm))
      · rw [Bool.eq_false_iff.mpr hc] at h
        exact plain h
    · exact plain h
  · rename_i id w
    split at h
    · rename_i w' xs hl
      obtain ⟨hc, h'⟩ := cond_some h
      clear h
      have hc : w = w' := by simpa using hc
      subst hc
      injection h' with h'
      injection h' with h1 h2
      subst h1
      subst h2
      have ho : (lk hp id).own = true := by rw [hl]; rfl
      have hid : id < n := hH.lt id (by rw [hl]; simp)
      have hF : Frz c n hp ((id, .dead) :: hp) c := ⟨rfl, rfl, .refl c n, relH_dead hH hid, fun _ h => .inl h, fun id' h' => by
        rw [lk_cons] at h'
        split at h'
        · cases h'
        · exact h'⟩
      cases hv with
      | mf _ _ cap a hid' hcap ha hb ho' hs =>
        obtain ⟨cs, e, fz, h1, h2, h3⟩ := hs
        have hA := hH.arr id w xs hl
        have hln : c.ln id = xs.xs.length := hA.1
        rw [hln] at hcap ⊢
        refine ⟨c, hF, .inl ⟨a, cap, rfl, hcap, ha, ho', by rw [hb]; exact hH.own id ho, by rw [hb]; exact hH.ownK id ho, ?_, cs, e, fz, by rw [hb]; exact h1, h2, h3⟩, fun b hb' => ?_⟩
        · refine ⟨rfl, ?_⟩
          rw [hb]
          exact hA.2
        · simp only [frB, beq0 (hH.arr id w xs hl).pos, cond_false, Option.some.injEq] at hb'
          rw [hb] at hb'
          refine ⟨fun id' h' he => ?_, id, ho, hb'⟩
          rw [lk_cons] at h'
          split at h'
          · cases h'
          · rename_i hne
            exact hne (hH.inj id id' ho h' (hb'.trans he.symm))
    · exact plain h
  · exact plain h

theorem FrOK.mono {w w' : World} {I K I' K' : Mem} {wd : Nat} {xs : List D} {v : Value} (hw : w' = w) (hk : Kept w I w' I') (hK : K' = K) (h : FrOK w I K wd xs v) (hn : ∀ b, (∃ a l c, v = .slice (some a) l c ∧ a.block = b) → ¬ I' b) : FrOK w' I' K' wd xs v := by
  obtain ⟨a, cap, rfl, h1, h2, h3, h4, h5, h6, h7⟩ := h
  subst hw
  subst hK
  refine ⟨a, cap, rfl, h1, h2, h3, hn _ ⟨a, _, _, rfl, rfl⟩, h5, ?_, h7⟩
  obtain ⟨g0, vs, e, fz, g1, g2, g3, g4, g5, g6, g7⟩ := h6
  exact ⟨g0, vs, e, fz, g1, g2, g3, g4, g5, g6, fun j k x d hj hd => (g7 j k x d hj hd).mono hk⟩
theorem RelT.mono {w w' : World} {I K I' K' : Mem} {d : D} {v : Value} (hw : w' = w) (hk : Kept w I w' I') (hK : K' = K) (h : RelT w I K d v) (hn : ∀ b, frB d v = some b → ¬ I' b) : RelT w' I' K' d v := by
  cases d with
  | fr wd xs =>
    rcases h with h | ⟨rfl, hx, ad, rfl⟩
    · have hp := beq0 h.pos
      exact .inl (FrOK.mono hw hk hK h (by rintro b ⟨a, l, c, rfl, rfl⟩; exact hn _ (by simp only [frB, hp, cond_false])))
    · exact .inr ⟨rfl, hx, ad, rfl⟩
  | _ => exact RelD.mono hk h

theorem expTops_sound {n : Nat} : ∀ (vs : List V) (c : Cf) (hp hp' : Heap) (ds : List D) (vals : List Value), expTops hp vs = some (ds, hp') → RelH c n hp → RelL c n vs vals →
    ∃ c', Frz c n hp hp' c' ∧ RelTs c'.w c'.I c'.K ds vals ∧ ∀ (j : Nat) (d : D) (v : Value) (b : Nat), ds[j]? = some d → vals[j]? = some v → frB d v = some b → (∀ id, (lk hp' id).own = true → c'.bk id ≠ b) ∧ ∃ id, (lk hp id).own = true ∧ c.bk id = b
  | [], c, hp, hp', ds, vals, h, hH, hv => by
    simp only [expTops, Option.some.injEq, Prod.mk.injEq] at h
    obtain ⟨rfl, rfl⟩ := h
    have : vals = [] := List.eq_nil_of_length_eq_zero (by simpa using hv.1)
    subst this
    exact ⟨c, .refl hH, trivial, by simp⟩
  | v :: vs, c, hp, hp', ds, vals, h, hH, hv => by
    simp only [expTops] at h
    split at h
    · rename_i d hp1 h1
      split at h
      · rename_i ds' hp2 h2
        simp only [Option.some.injEq, Prod.mk.injEq] at h
        obtain ⟨rfl, rfl⟩ := h
        obtain ⟨hlen, hrel⟩ := hv
        obtain ⟨u, hu, hru⟩ := hrel 0 v rfl
        cases vals with
        | nil => simp at hu
        | cons u' us =>
          simp only [List.getElem?_cons_zero, Option.some.injEq] at hu
          subst hu
          obtain ⟨c1, hF1, hd1, hb1⟩ := expTop_sound h1 hH hru
          have hrel' : RelL c1 n vs us := ⟨by simpa using hlen, fun j x hj => by
            obtain ⟨y, hy, hry⟩ := hrel (j + 1) x (by simpa using hj)
            exact ⟨y, by simpa using hy, hry.mono hF1.ext (Nat.le_refl n)⟩⟩
          obtain ⟨c2, hF2, hr2, hb2⟩ := expTops_sound vs c1 hp1 hp2 ds' us h2 hF1.heap hrel'
          have hne : ∀ b, frB d u' = some b → ∀ id, (lk hp1 id).own = true → c1.bk id ≠ b := fun b hb => (hb1 b hb).1
          refine ⟨c2, hF1.trans hF2, ⟨hd1.mono hF2.w hF2.ext.kept hF2.ext.K ?_, hr2, ?_⟩, ?_⟩
          · intro b hb hI
            rcases hF2.new b hI with hI | ⟨id, ho, he⟩
            · cases d with
              | fr wd xs =>
                rcases hd1 with hd1 | ⟨rfl, _, ad, rfl⟩
                · have hp := beq0 hd1.pos
                  obtain ⟨a, cap, rfl, _, _, _, hnI, _⟩ := hd1
                  simp only [frB, hp, cond_false, Option.some.injEq] at hb
                  subst hb
                  exact hnI hI
                · cases ad <;> cases hb
              | _ => cases hb
            · exact hne b hb id ho he
          · intro b hb j d' v' hj hv' hb'
            obtain ⟨_, id, ho, he⟩ := hb2 j d' v' b hj hv' hb'
            exact hne b hb id ho he
          · intro j d' v' b hj hv' hb'
            cases j with
            | zero =>
              simp only [List.getElem?_cons_zero, Option.some.injEq] at hj hv'
              subst hj
              subst hv'
              obtain ⟨g1, g2⟩ := hb1 b hb'
              exact ⟨fun id ho => by rw [hF2.bk]; exact g1 id (hF2.shr id ho), g2⟩
            | succ j =>
              obtain ⟨g1, id, g2, g3⟩ := hb2 j d' v' b (by simpa using hj) (by simpa using hv') hb'
              exact ⟨g1, id, hF1.shr id g2, by rw [← g3, hF1.bk]⟩
      · cases h
    · cases h

theorem RelTs_plain {w : World} {I K : Mem} : ∀ {ds : List D} {vs : List Value}, vs.length = ds.length → (∀ (j : Nat) (d : D), ds[j]? = some d → ∃ v, vs[j]? = some v ∧ RelD w I d v) → RelTs w I K ds vs
  | [], vs, hl, h => by
    have : vs = [] := List.eq_nil_of_length_eq_zero (by simpa using hl)
    subst this; trivial
  | d :: ds, vs, hl, h => by
    cases vs with
    | nil => simp at hl
    | cons v vs =>
      obtain ⟨v', hv, hr⟩ := h 0 d rfl
      simp only [List.getElem?_cons_zero, Option.some.injEq] at hv
      subst hv
      refine ⟨.of_rel hr, RelTs_plain (by simpa using hl) (fun j d hj => by simpa using h (j + 1) d (by simpa using hj)), fun b hb => ?_⟩
      cases d <;> first | cases hb | cases hr

theorem expD_sound {c : Cf} {n : Nat} {hp : Heap} {v : V} {d : D} {val : Value} (h : expD hp v = some d) (hH : RelH c n hp) (hv : RelV c n v val) :
    ∃ c' hp', Frz c n hp hp' c' ∧ RelX c'.w c'.I c'.K d val := by
  unfold expD at h
  split at h
  · rename_i vs
    obtain ⟨⟨ds, hp'⟩, he, rfl⟩ := Option.map_eq_some_iff.1 h
    cases hv with
    | tp _ us hl hh =>
      obtain ⟨c', hF, hr, _⟩ := expTops_sound vs c hp hp' ds us.toList he hH ⟨by simpa using hl, fun j x hj => by
        have hlt := (List.getElem?_eq_some_iff.1 hj).1
        refine ⟨us.getD j undef, ?_, hh j x hj⟩
        rw [Array.getElem?_toList, Array.getD_eq_getD_getElem?, Array.getElem?_eq_getElem (by omega)]; rfl⟩
      exact ⟨c', hp', hF, us, rfl, hr⟩
  · rename_i hnt
    obtain ⟨⟨d', hp'⟩, he, rfl⟩ := Option.map_eq_some_iff.1 h
    obtain ⟨c', hF, hr, _⟩ := expTop_sound he hH hv
    refine ⟨c', hp', hF, ?_⟩
    cases d' with
    | tp ds =>
      cases hr with
      | tp _ us hl hh =>
        refine ⟨us, rfl, RelTs_plain (by simpa using hl) fun j d hj => ?_⟩
        have hlt := (List.getElem?_eq_some_iff.1 hj).1
        refine ⟨us.getD j undef, ?_, hh j d hj⟩
        rw [Array.getElem?_toList, Array.getD_eq_getD_getElem?, Array.getElem?_eq_getElem (by omega)]; rfl
    | _ => exact hr

theorem impTop_sound {c : Cf} {n : Nat} {hp : Heap} (hH : RelH c n hp) {d : D} {v : Value} (hr : RelT c.w c.I c.K d v) (hb : ∀ b, frB d v = some b → ∀ id, (lk hp id).own = true → c.bk id ≠ b) :
    ∃ c', c'.w = c.w ∧ c'.I = c.I ∧ Outs c n (impTop n hp d) v c' ∧ ∀ id, (lk (impTop n hp d).2.2 id).own = true → (lk hp id).own = true ∧ c'.bk id = c.bk id ∨ frB d v = some (c'.bk id) := by
  have plain : impTop n hp d = (.d d, n, hp) → RelD c.w c.I d v → ∃ c', c'.w = c.w ∧ c'.I = c.I ∧ Outs c n (impTop n hp d) v c' ∧ ∀ id, (lk (impTop n hp d).2.2 id).own = true → (lk hp id).own = true ∧ c'.bk id = c.bk id ∨ frB d v = some (c'.bk id) := by
    intro he hd
    rw [he]
    exact ⟨c, rfl, rfl, .same hH (.d _ _ hd), fun id ho => .inl ⟨ho, rfl⟩⟩
  cases d with
  | fr wd xs =>
    rcases hr with hr | ⟨rfl, hx, ad, rfl⟩
    rotate_left
    · refine ⟨c, rfl, rfl, .same hH ?_, fun id ho => .inl ⟨ho, rfl⟩⟩
      exact .fl0 _ _ _ hx
    have hp0 := beq0 hr.pos
    have hfr : ∀ a l cp, frB (.fr wd xs) (.slice (some a) l cp) = some a.block := fun a l cp => by simp only [frB, hp0, cond_false]
    have him : impTop n hp (.fr wd xs) = (.mf n wd, n + 1, (n, .arr wd xs) :: hp) := by simp only [impTop, hp0, cond_false]
    rw [him]
    obtain ⟨a, cap, rfl, h1, h2, h3, h4, h5, h6, cs, e, fz, h7, h8, h9⟩ := hr
    let c' : Cf := { c with bk := fun k => if k = n then a.block else c.bk k, ln := fun k => if k = n then xs.xs.length else c.ln k }
    have hx : Ext c n c' := ⟨Nat.le_refl _, fun _ h => ⟨h, rfl⟩, fun _ cs _ _ h => ⟨cs, h, rfl⟩, .refl _, fun id hid => by simp only [c']; rw [if_neg (by omega)], fun id hid => by simp only [c']; rw [if_neg (by omega)], rfl, rfl, fun _ _ => rfl, rfl, rfl, rfl, fun _ h => h⟩
    have hbn : c'.bk n = a.block := by simp [c']
    have hln' : c'.ln n = xs.xs.length := by simp [c']
    have hm : RelH c' (n + 1) hp := hH.mono hx (Nat.le_succ n) (fun _ _ => rfl) (fun id ho => hH.own id ho) hH.low hH.disj
    have hA : Arr c' n wd xs.xs := by
      refine ⟨hln', ?_⟩
      rw [hbn]
      exact h6.2
    refine ⟨c', rfl, rfl, ⟨hx, Nat.le_succ n, hm.push (Nat.lt_succ_self n) ⟨hA, by rw [hbn]; exact h4⟩ (fun _ id' hne ho' => ?_) (fun _ => by rw [hbn]; exact h5), ?_⟩, fun id ho => ?_⟩
    · have hlt := hH.lt id' (by intro e; rw [e] at ho'; cases ho')
      rw [hbn, hx.bk id' hlt]
      exact fun e => hb _ (hfr _ _ _) id' ho' e.symm
    · have := RelV.mf (c := c') (n := n + 1) n wd cap a (Nat.lt_succ_self n) (by rw [hln']; exact h1) h2 hbn.symm h3 ⟨cs, e, fz, by rw [hbn]; exact h7, h8, h9⟩
      rw [hln'] at this
      exact this
    · simp only [lk_cons] at ho
      split at ho
      · rename_i e
        right
        rw [← e, hbn]; exact hfr _ _ _
      · left
        have hlt := hH.lt id (by intro e; rw [e] at ho; cases ho)
        exact ⟨ho, hx.bk id hlt⟩
  | _ => exact plain rfl hr

theorem impTops_sound : ∀ (ds : List D) (c : Cf) (n : Nat) (hp : Heap) (vs : List Value), RelH c n hp → RelTs c.w c.I c.K ds vs →
    (∀ (j : Nat) (d : D) (v : Value) (b : Nat), ds[j]? = some d → vs[j]? = some v → frB d v = some b → ∀ id, (lk hp id).own = true → c.bk id ≠ b) →
    ∃ c', c'.w = c.w ∧ c'.I = c.I ∧ Ext c n c' ∧ n ≤ (impTops n hp ds).2.1 ∧ RelH c' (impTops n hp ds).2.1 (impTops n hp ds).2.2 ∧ RelL c' (impTops n hp ds).2.1 (impTops n hp ds).1 vs
  | [], c, n, hp, vs, hH, hr, hb => by
    cases vs with
    | nil => exact ⟨c, rfl, rfl, .refl c n, Nat.le_refl n, hH, rfl, by simp [impTops]⟩
    | cons a b => exact hr.elim
  | d :: ds, c, n, hp, vs, hH, hr, hb => by
    cases vs with
    | nil => exact hr.elim
    | cons v vs =>
      obtain ⟨h1, h2, h3⟩ := hr
      obtain ⟨c1, hw, hI, hO, hown⟩ := impTop_sound hH h1 (fun b hb' => hb 0 d v b rfl rfl hb')
      have hK : c1.K = c.K := hO.ext.K
      have hr' : RelTs c1.w c1.I c1.K ds vs := by rw [hw, hI, hK]; exact h2
      obtain ⟨c2, hw2, hI2, hx2, hn2, hH2, hL2⟩ := impTops_sound ds c1 (impTop n hp d).2.1 (impTop n hp d).2.2 vs hO.heap hr' (fun j d' v' b hj hv' hb' id ho => by
        rcases hown id ho with ⟨g1, g2⟩ | g
        · rw [g2]; exact hb (j + 1) d' v' b (by simpa using hj) (by simpa using hv') hb' id g1
        · intro e
          rw [e] at g
          exact h3 b g j d' v' hj hv' hb')
      refine ⟨c2, hw2.trans hw, hI2.trans hI, hO.ext.trans hx2 hO.le, Nat.le_trans hO.le hn2, hH2, ?_, fun j x hj => ?_⟩
      · simp only [impTops, List.length_cons]
        rw [hL2.1]
      · simp only [impTops] at hj ⊢
        cases j with
        | zero =>
          simp only [List.getElem?_cons_zero, Option.some.injEq] at hj
          subst hj
          exact ⟨v, rfl, hO.rel.mono hx2 hn2⟩
        | succ j => simpa using hL2.2 j x (by simpa using hj)

theorem RelT.weak {w : World} {I K K' : Mem} (hK : ∀ b, K' b → K b) {d : D} {v : Value} (h : RelT w I K d v) : RelT w I K' d v := by
  cases d with
  | fr wd xs =>
    rcases h with ⟨a, cap, rfl, h1, h2, h3, h4, h5, h6, h7⟩ | h
    · exact .inl ⟨a, cap, rfl, h1, h2, h3, h4, fun hk => h5 (hK _ hk), h6, h7⟩
    · exact .inr h
  | _ => exact h
theorem RelT.frK {w : World} {I K : Mem} {d : D} {v : Value} (h : RelT w I K d v) {b : Nat} (hb : frB d v = some b) : ¬ K b := by
  cases d with
  | fr wd xs =>
    rcases h with h | ⟨rfl, _, ad, rfl⟩
    · have hp := beq0 h.pos
      obtain ⟨a, cap, rfl, h1, h2, h3, h4, h5, h6, h7⟩ := h
      simp only [frB, hp, cond_false, Option.some.injEq] at hb
      subst hb
      exact h5
    · cases ad <;> cases hb
  | _ => cases hb
theorem RelTs.weak {w : World} {I K K' : Mem} (hK : ∀ b, K' b → K b) : ∀ {ds : List D} {vs : List Value}, RelTs w I K ds vs → RelTs w I K' ds vs
  | [], [], _ => trivial
  | d :: ds, v :: vs, h => ⟨h.1.weak hK, RelTs.weak hK h.2.1, h.2.2⟩
  | [], _ :: _, h => h.elim
  | _ :: _, [], h => h.elim
theorem RelTs.frK {w : World} {I K : Mem} : ∀ {ds : List D} {vs : List Value}, RelTs w I K ds vs → ∀ (j : Nat) (d : D) (v : Value) (b : Nat), ds[j]? = some d → vs[j]? = some v → frB d v = some b → ¬ K b
  | [], [], _, j, d, v, b, hj, _, _ => by simp at hj
  | d :: ds, v :: vs, h, j, d', v', b, hj, hv, hb => by
    cases j with
    | zero =>
      simp only [List.getElem?_cons_zero, Option.some.injEq] at hj hv
      subst hj
      subst hv
      exact h.1.frK hb
    | succ j => exact RelTs.frK h.2.1 j d' v' b (by simpa using hj) (by simpa using hv) hb
  | [], _ :: _, h, _, _, _, _, _, _, _ => h.elim
  | _ :: _, [], h, _, _, _, _, _, _, _ => h.elim

theorem impD_sound {c : Cf} {n : Nat} {hp : Heap} (hH : RelH c n hp) {d : D} {v : Value} {K : Mem} (hr : RelX c.w c.I K d v) (hK : ∀ b, c.K b → K b) (ho : ∀ id, (lk hp id).own = true → K (c.bk id)) :
    ∃ c', c'.w = c.w ∧ Outs c n (impD n hp d) v c' := by
  have go : ∀ d : D, RelT c.w c.I K d v → impD n hp d = impTop n hp d → ∃ c', c'.w = c.w ∧ Outs c n (impD n hp d) v c' := by
    intro d hr he
    obtain ⟨c', hw, hI, hO, _⟩ := impTop_sound hH (RelT.weak hK hr) (fun b hb id hid e => RelT.frK hr hb (e ▸ ho id hid))
    rw [he]
    exact ⟨c', hw, hO⟩
  cases d with
  | tp ds =>
    obtain ⟨vs, rfl, hT⟩ := hr
    obtain ⟨c', hw, hI, hx, hn, hH', hL⟩ := impTops_sound ds c n hp vs.toList hH (hT.weak hK) (fun j d v b hj hv hb id hid e => hT.frK j d v b hj hv hb (e ▸ ho id hid))
    refine ⟨c', hw, hx, hn, hH', ?_⟩
    refine mkTp_rel _ _ (by simpa using hL.1) (fun j x hj => ?_)
    obtain ⟨u, hu, hru⟩ := hL.2 j x hj
    rw [Array.getElem?_toList] at hu
    rw [Array.getD_eq_getD_getElem?, hu]
    exact hru
  | _ => exact go _ hr rfl

def Enters (P : Program) (g : FuncId) : Prop := ∃ fn, P.funcs[g]? = some fn ∧ (fn.name == "runtime.NumGoroutine") = false ∧ fn.body.isNone = false
theorem Enters.run {g : FuncId} (h : Enters P g) (vs : Array Value) (w : World) : (callFunc g vs).run P w = .ok (.enter g vs) w := by
  obtain ⟨fn, h1, h2, h3⟩ := h
  unfold callFunc
  simp only [Sem.run_bind, run_program, Result.andThen_ok, h1, h2, h3, Bool.false_eq_true, if_false]
  rfl
def PCall (P : Program) (G : Nat → Option (List D)) (g : FuncId) (ds : List D) (r : D) : Prop :=
  ∀ (w : World) (I K : Mem) (vs : Array Value), Glob ⟨w, I, K, fun _ => 0, fun _ => 0, G⟩ → (∀ b, I b → b < w.heap.size) → (∀ b, K b → b < w.heap.size) → (∀ b, I b → ¬ K b) → vs.size = ds.length →
    (∀ (j : Nat) (d : D), ds[j]? = some d → RelD w I d (vs.getD j undef)) →
    Calls P g vs w fun e w' => ∃ v I', e = .returned v ∧ w.heap.size ≤ w'.heap.size ∧ Kept w I w' I' ∧ (∀ b, K b → w'.heap[b]? = w.heap[b]?) ∧ (∀ b, I' b → b < w'.heap.size ∧ ¬ K b) ∧
      (∀ (b : Nat) (cs : Array Value) (e : TypeId) (fz : Nat × Nat), w.heap[b]? = some (.cells cs e fz) → ∃ cs' : Array Value, w'.heap[b]? = some (.cells cs' e fz) ∧ cs'.size = cs.size) ∧
      w'.os = w.os ∧ w'.tape = w.tape ∧ w'.output = w.output ∧ RelX w' I' K r v
def MCall (P : Program) (G : Nat → Option (List D)) (g : FuncId) (xs : List V) (n : Nat) (hp : Heap) (r : V × Nat × Heap) : Prop :=
  ∀ (c : Cf) (vs : Array Value), c.G = G → Glob c → RelH c n hp → RelL c n xs vs.toList → Calls P g vs c.w fun e w' => ∃ v c', e = .returned v ∧ w' = c'.w ∧ Outs c n r v c'
def ExtOK (P : Program) (g : FuncId) (f : List D → Option D) : Prop :=
  ∀ ds r, f ds = some r → ∀ (w : World) (I : Mem) (vs : Array Value), vs.size = ds.length → (∀ (j : Nat) (d : D), ds[j]? = some d → RelD w I d (vs.getD j undef)) → ∃ v, (callFunc g vs).run P w = .ok (.value v) w ∧ RelD w I r v

structure CallsOK (P : Program) (h : Hs) : Prop where
  ext : ∀ g f, h.ext g = some f → ExtOK P g f
  pcall : ∀ g ds r, h.pcall g ds = some r → Enters P g ∧ PCall P h.G g ds r
  call : ∀ g xs n hp r, h.call g xs n hp = some r → Enters P g ∧ MCall P h.G g xs n hp r
  code : ∀ nt code st r, okCode nt code = true → h.code nt code st = some r → CodeOK P h.G nt code st r

theorem callV_wp {ro : Option Nat} {h : Hs} (hok : CallsOK P h) {g : FuncId} {xs : List V} {n : Nat} {hp : Heap} {r : V × Nat × Heap} (he : callV h g xs n hp = some r) {c : Cf} {vs : Array Value} (hG : h.G = c.G) (hg : Glob c) (hH : RelH c n hp) (hL : RelL c n xs vs.toList)
    {o : Oper} {a : Act} {K : Act → World → Prop} {Q : Exit → Act → World → Prop} (hK : ∀ v c', Outs c n r v c' → K (a.put o.dst v) c'.w) : o.uponIn (Fe ro) 3 P a K Q ((callFunc g vs).run P c.w) := by
  unfold callV at he
  split at he
  · rename_i ds hp' hf
    replace hf : frzs hp xs = some (ds, hp') := by
      cases hi : h.inl g <;> rw [hi] at hf
      · exact hf
      · cases hf
    obtain ⟨c1, hF, hlen, hrel⟩ := frzs_sound xs c hp hp' ds vs.toList hf hH hL
    have hsz : vs.size = ds.length := by rw [hlen, ← hL.1]; simp
    have hargs : ∀ (j : Nat) (d : D), ds[j]? = some d → RelD c1.w c1.I d (vs.getD j undef) := fun j d hj => by
      obtain ⟨v, hv, hrv⟩ := hrel j d hj
      rw [Array.getElem?_toList] at hv
      rw [Array.getD_eq_getD_getElem?, hv]; exact hrv
    split at he
    · rename_i f hfx
      split at he
      · rename_i r' hr
        injection he with he
        subst he
        obtain ⟨v, hrun, hrv⟩ := hok.ext g f hfx ds r' hr c1.w c1.I vs hsz hargs
        rw [hF.w] at hrun
        rw [hrun]
        have := hK v c1 ⟨hF.ext, Nat.le_refl n, hF.heap, .d _ _ hrv⟩
        rw [hF.w] at this
        exact this
      · cases he
    · split at he
      · rename_i r' hr
        injection he with he
        subst he
        let K' : Mem := fun b => b < c1.w.heap.size ∧ ¬ c1.I b
        obtain ⟨hent, hp1⟩ := hok.pcall g ds r' hr
        have hgl : Glob ⟨c1.w, c1.I, K', fun _ => 0, fun _ => 0, h.G⟩ := by
          have := hg.mono hF.ext
          intro g' cs hgc
          rw [hG, ← hF.ext.G] at hgc
          exact this g' cs hgc
        have hcall := hp1 c1.w c1.I K' vs hgl hF.heap.low (fun b hb => hb.1) (fun b hb hk => hk.2 hb) hsz hargs
        rw [hF.w] at hcall
        rw [hent.run]
        refine ⟨Fe_depth ro, Fe_calls (hcall.mono ?_)⟩
        rintro e w' ⟨v, I', rfl, h1, h2, h3, h4, h5, h6, h7, h8, h9⟩
        let c2 : Cf := { w := w', I := I', K := c1.K, bk := c1.bk, ln := c1.ln, G := c1.G }
        have hKK : ∀ b, c1.K b → K' b := fun b hb => ⟨hF.heap.lowK b hb, fun hI => hF.heap.disj b hI hb⟩
        have hown : ∀ id, (lk hp' id).own = true → K' (c1.bk id) := fun id ho => ⟨own_lt hF.heap ho, hF.heap.own id ho⟩
        have hx : Ext c1 n c2 := by
          refine ⟨by rw [hF.w]; exact h1, ?_, ?_, ?_, fun _ _ => rfl, fun _ _ => rfl, rfl, rfl, ?_, by rw [hF.w]; exact h6, by rw [hF.w]; exact h7, by rw [hF.w]; exact h8, ?_⟩
          · rw [hF.w]; exact h2
          · rw [hF.w]; exact h5
          · have old : ∀ (b : Nat) (q : Obj), c1.w.heap[b]? = some q → w'.heap[b]? = some q := by
              intro b q hq
              have hlt := (Array.getElem?_eq_some_iff.1 hq).1
              by_cases hI : c1.I b
              · exact (h2 b hI).2.trans (by rw [← hF.w]; exact hq)
              · exact (h3 b ⟨hlt, hI⟩).trans (by rw [← hF.w]; exact hq)
            exact fun b q hq => ⟨q, old b _ hq, rfl, rfl, rfl, rfl, rfl, rfl⟩
          · rw [hF.w]; exact fun b hb => h3 b (hKK b hb)
          · intro b hb
            have hlt := (Array.getElem?_eq_some_iff.1 hb.1).1
            exact ⟨(h3 b ⟨hlt, hb.2⟩).trans (by rw [← hF.w]; exact hb.1), fun hI => (h4 b hI).2 ⟨hlt, hb.2⟩⟩
        have hH2 : RelH c2 n hp' := hF.heap.mono hx (Nat.le_refl n) (fun id ho => by rw [hF.w]; exact h3 _ (hown id ho)) (fun id ho hI => (h4 _ hI).2 (hown id ho)) (fun b hb => (h4 b hb).1) (fun b hb hk => (h4 b hb).2 (hKK b hk))
        obtain ⟨c3, hw3, hO⟩ := impD_sound (c := c2) hH2 (d := r') (v := v) (K := K') h9 hKK hown
        have := hK v c3 (hO.after (hF.ext.trans hx (Nat.le_refl n)))
        rw [hw3] at this
        exact this
      · cases he
  · split at he
    · cases he
    · obtain ⟨hent, hm⟩ := hok.call g xs n hp r he
      rw [hent.run]
      refine ⟨Fe_depth ro, Fe_calls ((hm c vs hG.symm hg hH hL).mono ?_)⟩
      rintro e w' ⟨v, c', rfl, rfl, hO⟩
      exact hK v c' hO

theorem calleeV_wp {ro : Option Nat} {h : Hs} (hok : CallsOK P h) {o : Oper} {cl : Call} {fo : Operand} (ho : o.op = .call cl) (hcl : cl.callee = .value fo) {f : Slots} {n : Nat} {hp : Heap} {r : V × Nat × Heap} {a : Act} {c : Cf}
    (he : calleeV h f fo (cl.args.toList.map (opV h.G f)) n hp = some r) (hG : h.G = c.G) (hs : RelS c n f a.tmps) (hH : RelH c n hp)
    {K : Act → World → Prop} {Q : Exit → Act → World → Prop} (hK : ∀ v c', Outs c n r v c' → K (a.put o.dst v) c'.w) : o.wpIn (Fe ro) 3 P a c.w K Q := by
  have hf := opV_rel hs fo
  have hargs := list_rel hs cl.args
  rw [← hG] at hf hargs
  unfold calleeV at he
  refine ⟨fun f _ => Fe_fn ro f, ?_⟩
  rw [semAt_same (by rw [ho]; rfl)]
  have app : ∀ (ys : List V) (us : Array Value), RelL c n ys us.toList → RelL c n (cl.args.toList.map (opV h.G f) ++ ys) ((cl.args.map a.eval) ++ us).toList := by
    intro ys us hL
    refine ⟨by simp [hL.1, ← hargs.1], fun j x hj => ?_⟩
    rw [List.getElem?_append] at hj
    rw [Array.toList_append, List.getElem?_append]
    have hl : (cl.args.map a.eval).toList.length = (cl.args.toList.map (opV h.G f)).length := hargs.1
    rw [hl]
    split at hj
    · rename_i hlt; rw [if_pos hlt]; exact hargs.2 j x hj
    · rename_i hlt; rw [if_neg hlt]; exact hL.2 _ x hj
  split at he
  · rename_i g cs hfv
    rw [hfv] at hf
    generalize hv : a.eval fo = v at hf
    cases hf.inv_d with
    | fn _ _ vs hl hh =>
      have hrun : (execOp a.eval o).run P c.w = (callFunc g ((cl.args.map a.eval) ++ vs)).run P c.w := by
        simp [execOp, ho, resolve, hcl, hv, Deferred.ofValue, invoke]
      rw [hrun]
      refine callV_wp hok he hG hs.glob hH (app _ _ ⟨by simpa using hl, fun j x hj => ?_⟩) hK
      simp only [List.getElem?_map] at hj
      obtain ⟨d, hd, rfl⟩ := Option.map_eq_some_iff.1 hj
      have hlt := (List.getElem?_eq_some_iff.1 hd).1
      refine ⟨vs.getD j undef, ?_, .d _ _ (hh j d hd)⟩
      rw [Array.getElem?_toList, Array.getD_eq_getD_getElem?, Array.getElem?_eq_getElem (by omega)]; rfl
  · rename_i g cs hfv
    rw [hfv] at hf
    generalize hv : a.eval fo = v at hf
    cases hf with
    | fn _ _ vs hl hh =>
      have hrun : (execOp a.eval o).run P c.w = (callFunc g ((cl.args.map a.eval) ++ vs)).run P c.w := by
        simp [execOp, ho, resolve, hcl, hv, Deferred.ofValue, invoke]
      rw [hrun]
      refine callV_wp hok he hG hs.glob hH (app _ _ ⟨by simpa using hl, fun j x hj => ?_⟩) hK
      have hlt := (List.getElem?_eq_some_iff.1 hj).1
      refine ⟨vs.getD j undef, ?_, hh j x hj⟩
      rw [Array.getElem?_toList, Array.getD_eq_getD_getElem?, Array.getElem?_eq_getElem (by omega)]; rfl
  · rename_i g cs hfv
    rw [hfv] at hf
    generalize hv : a.eval fo = v at hf
    cases hf with
    | bm _ _ vs hl hh =>
      have hrun : (execOp a.eval o).run P c.w = (callFunc g (vs ++ (cl.args.map a.eval))).run P c.w := by
        simp [execOp, ho, resolve, hcl, hv, Deferred.ofValue, invoke]
      rw [hrun]
      refine callV_wp hok he hG hs.glob hH ⟨by simp [← hargs.1, hl], fun j x hj => ?_⟩ hK
      rw [List.getElem?_append] at hj
      rw [Array.toList_append, List.getElem?_append]
      have hl' : vs.toList.length = cs.length := by simpa using hl
      rw [hl']
      split at hj
      · rename_i hlt; rw [if_pos hlt]
        refine ⟨vs.getD j undef, ?_, hh j x hj⟩
        rw [Array.getElem?_toList, Array.getD_eq_getD_getElem?, Array.getElem?_eq_getElem (by omega)]; rfl
      · rename_i hlt; rw [if_neg hlt]; exact hargs.2 _ x hj
  · rename_i id sl ps assign body hfv
    rw [hfv] at hf
    generalize hv : a.eval fo = v at hf
    cases hf with
    | yd _ _ _ _ _ tm hid hl hk hh =>
      have hrun : (execOp a.eval o).run P c.w = (Instr.yield (c.bk id) (cl.args.map a.eval)).run P c.w := by
        simp [execOp, ho, resolve, hcl, hv, Deferred.ofValue, invoke]
      obtain ⟨rc, h1, h2, h3⟩ := roundV_sound (ro := ro) hok.code he hG hs.glob hH hargs hl hk hh 2
      rw [hrun, run_yield h1 h2]
      refine ⟨Fe_depth ro, h3.mono ?_⟩
      rintro e w' ⟨v, c', rfl, rfl, hO⟩
      exact hK v c' hO
  · cases he
end Go.Fw
end
section
set_option linter.unusedVariables false
set_option linter.unusedSimpArgs false
namespace Go.Fw
variable {P : Program}
theorem Ls.ins_xs (a c : Ls) (k : Nat) : (a.ins k c).xs = a.xs.take k ++ c.xs ++ a.xs.drop k := by
  cases a with
  | r xs => rfl
  | t T l =>
    cases c with
    | r ys =>
      simp only [Ls.ins]
      split
      · rename_i l' h
        simp only [Ls.xs, List.map_append, List.map_take, List.map_drop, Ty.decs_elt h]
      · simp only [Ls.xs]
    | t T' l' =>
      simp only [Ls.ins]
      split
      · rename_i h _
        simp only [Ls.xs, List.map_append, List.map_take, List.map_drop, castL_map]
      · simp only [Ls.xs]
def insAt (cur : Array Value) (o : Nat) (new : Array Value) (k sz j : Nat) : Value :=
  if j < k * sz then cur.getD (o + j) undef else if j < k * sz + sz then new.getD (j - k * sz) undef else cur.getD (o + j - sz) undef
theorem getElem?_ins {α : Type} (xs : List α) (y : α) (k : Nat) (hk : k ≤ xs.length) (j : Nat) : (xs.take k ++ [y] ++ xs.drop k)[j]? = if j < k then xs[j]? else if j = k then some y else xs[j - 1]? := by
  have hl : (xs.take k).length = k := by simp; omega
  by_cases h1 : j < k
  · rw [if_pos h1, List.append_assoc, List.getElem?_append_left (by omega), List.getElem?_take_of_lt h1]
  · rw [if_neg h1]
    by_cases h2 : j = k
    · subst h2
      rw [if_pos rfl, List.append_assoc, List.getElem?_append_right (by omega), hl]
      simp
    · rw [if_neg h2, List.getElem?_append_right (by simp; omega), List.getElem?_drop]
      congr 1
      simp
      omega
theorem ins_rel {w : World} {I : Mem} {sz o k : Nat} {xs : List D} {y : D} {cur new : Array Value} (hk : k ≤ xs.length) (hsz : 0 < sz) (hwx : ∀ x ∈ xs, x.width = sz) (hwy : y.width = sz)
    (hx : ∀ (j m : Nat) (x d : D), xs[j]? = some x → x.cells[m]? = some d → RelD w I d (cur.getD (o + (j * sz + m)) undef))
    (hy : ∀ (m : Nat) (d : D), y.cells[m]? = some d → RelD w I d (new.getD m undef)) (j m : Nat) (x d : D) (hj : (xs.take k ++ [y] ++ xs.drop k)[j]? = some x) (hd : x.cells[m]? = some d) :
    RelD w I d (insAt cur o new k sz (j * sz + m)) := by
  rw [getElem?_ins xs y k hk] at hj
  have hw : m < sz := by
    have h1 := (List.getElem?_eq_some_iff.1 hd).1
    have h2 : x.cells.length = sz := by
      split at hj
      · exact hwx x (List.mem_of_getElem? hj)
      · split at hj
        · injection hj with hj; subst hj; exact hwy
        · exact hwx x (List.mem_of_getElem? hj)
    omega
  unfold insAt
  by_cases h1 : j < k
  · rw [if_pos h1] at hj
    have := mul_lt_of_lt (wd := sz) h1
    rw [if_pos (by omega)]
    exact hx j m x d hj hd
  · rw [if_neg h1] at hj
    by_cases h2 : j = k
    · subst h2
      rw [if_pos rfl] at hj
      injection hj with hj
      subst hj
      rw [if_neg (by omega), if_pos (by omega), show j * sz + m - j * sz = m by omega]
      exact hy m d hd
    · rw [if_neg h2] at hj
      have h3 := mul_lt_of_lt (wd := sz) (show k < j by omega)
      have h4 : (j - 1) * sz = j * sz - sz := by rw [Nat.sub_mul, Nat.one_mul]
      rw [if_neg (by omega), if_neg (by omega), show o + (j * sz + m) - sz = o + ((j - 1) * sz + m) by omega]
      exact hx (j - 1) m x d hj hd
theorem ins_one {sz o k n : Nat} {cur new : Array Value} (hk : k ≤ n) (hc : ∀ j, j < n * sz → (cur.getD (o + j) undef).oneCell' = true) (hn : ∀ j, j < sz → (new.getD j undef).oneCell' = true) (j : Nat) (hj : j < (n + 1) * sz) :
    (insAt cur o new k sz j).oneCell' = true := by
  have hm : k * sz ≤ n * sz := Nat.mul_le_mul_right _ hk
  rw [Nat.add_mul, Nat.one_mul] at hj
  unfold insAt
  split
  · exact hc j (by omega)
  · split
    · exact hn _ (by omega)
    · rw [show o + j - sz = o + (j - sz) by omega]
      exact hc _ (by omega)
structure Quiet (w w' : World) : Prop where
  os : w'.os = w.os
  tape : w'.tape = w.tape
  output : w'.output = w.output
def GrowRes (w : World) (e : TypeId) (sz n : Nat) (F : Nat → Value) (ex : Ending) (w' : World) : Prop :=
  ∃ cap row, n + 1 ≤ cap ∧ ex = .returned (.slice (some ⟨w.heap.size, 0, none⟩) (n + 1) cap) ∧ w'.heap = w.heap.push (.cells row e (0, 0)) ∧ row.size = cap * sz ∧ (∀ j, j < (n + 1) * sz → row.getD j undef = F j) ∧ Quiet w w'
def RoomRes (w : World) (b n c size sz : Nat) (F : Nat → Value) (ex : Ending) (w' : World) : Prop :=
  ∃ row : Array Value, ex = .returned (.slice (some ⟨b, 0, none⟩) (n + 1) c) ∧ w'.heap = (w.setRow b row).heap ∧ row.size = size ∧ (∀ j, j < (n + 1) * sz → row.getD j undef = F j) ∧ Quiet w w'
def RowAt (w : World) (a : Addr) (len : Nat) (cur : Array Value) : Prop :=
  a.spot = none ∧ ∃ e fz, w.heap[a.block]? = some (.cells cur e fz) ∧ a.off + len ≤ cur.size ∧ ∀ j, j < len → (cur.getD (a.off + j) undef).oneCell' = true
structure InsC (P : Program) (g : FuncId) (e : TypeId) : Prop where
  ent : Enters P g
  grow : ∀ (w : World) (base : Option Addr) (n k c vb vc : Nat) (cur new : Array Value) (o : Nat), (n = 0 ∨ ∃ a, base = some a ∧ a.off = o ∧ RowAt w a (n * P.cellsOf e) cur) → k ≤ n → n ≤ c → c < n + 1 →
    RowAt w ⟨vb, 0, none⟩ (P.cellsOf e) new → (n + 1) * P.bytesOf e ≤ 140737488355328 → n + 1 ≤ 140737488355328 →
    Calls P g #[.slice base n c, .int .i64 k, .slice (some ⟨vb, 0, none⟩) 1 vc] w (GrowRes w e (P.cellsOf e) n (insAt cur o new k (P.cellsOf e)))
  room : ∀ (w : World) (b n k c vb vc : Nat) (cur new : Array Value) (eb ev : TypeId) (fb fv : Nat × Nat), k ≤ n → n + 1 ≤ c → b ≠ vb →
    n + 1 ≤ 140737488355328 → w.heap[b]? = some (.cells cur eb fb) → (∀ o, o < cur.size + 1 → ¬ (fb.1 ≤ o ∧ o < fb.2)) → c * P.cellsOf e ≤ cur.size → (∀ j, j < n * P.cellsOf e → (cur.getD j undef).oneCell' = true) →
    w.heap[vb]? = some (.cells new ev fv) → (∀ o, o < new.size + 1 → ¬ (fv.1 ≤ o ∧ o < fv.2)) → P.cellsOf e ≤ new.size → (∀ j, j < P.cellsOf e → (new.getD j undef).oneCell' = true) →
    Calls P g #[.slice (some ⟨b, 0, none⟩) n c, .int .i64 k, .slice (some ⟨vb, 0, none⟩) 1 vc] w (RoomRes w b n c cur.size (P.cellsOf e) (insAt cur 0 new k (P.cellsOf e)))
def DelRes (w : World) (b n c size sz : Nat) (F : Nat → Value) (ex : Ending) (w' : World) : Prop :=
  ∃ row : Array Value, ex = .returned (.slice (some ⟨b, 0, none⟩) (n - 1) c) ∧ w'.heap = (w.setRow b row).heap ∧ row.size = size ∧ (∀ j, j < (n - 1) * sz → row.getD j undef = F j) ∧ Quiet w w'
def delAt (cur : Array Value) (k sz j : Nat) : Value := if j < k * sz then cur.getD j undef else cur.getD (j + sz) undef
structure DelC (P : Program) (g : FuncId) (e : TypeId) : Prop where
  ent : Enters P g
  del : ∀ (w : World) (b n k c : Nat) (cur : Array Value) (eb : TypeId) (fb : Nat × Nat), k < n → n ≤ c → n ≤ 140737488355328 → w.heap[b]? = some (.cells cur eb fb) → (∀ o, o < cur.size + 1 → ¬ (fb.1 ≤ o ∧ o < fb.2)) →
    c * P.cellsOf e ≤ cur.size → (∀ j, j < n * P.cellsOf e → (cur.getD j undef).oneCell' = true) →
    Calls P g #[.slice (some ⟨b, 0, none⟩) n c, .int .i64 k, .int .i64 (k + 1)] w (DelRes w b n c cur.size (P.cellsOf e) (delAt cur k (P.cellsOf e)))
def InsAll (P : Program) (J : FuncId → Option TypeId) : Prop := ∀ g e, J g = some e → (e < 1000000 → InsC P g e ∧ P.cellsOf e ≠ 1) ∧ (¬ e < 1000000 → DelC P g (e - 1000000) ∧ P.cellsOf (e - 1000000) ≠ 1)
theorem Quiet.out {c c' : Cf} {n : Nat} {r : V × Nat × Heap} {val : Value} {w' : World} (h : Outs c n r val c') (hh : w'.heap = c'.w.heap) (hq : Quiet c'.w w') : Outs c n r val { c' with w := w' } := by
  have hx : Ext c' r.2.1 { c' with w := w' } := by
    refine ⟨?_, fun b hb => ⟨hb, ?_⟩, fun b cs e fz hc => ⟨cs, ?_, rfl⟩, fun b x hx => ⟨x, ?_, rfl, rfl, rfl, rfl, rfl, rfl⟩, fun _ _ => rfl, fun _ _ => rfl, rfl, rfl, fun b hb => ?_, hq.os, hq.tape, hq.output, fun b hb => ⟨?_, hb.2⟩⟩
    · show c'.w.heap.size ≤ w'.heap.size
      rw [hh]; exact Nat.le_refl _
    · show w'.heap[b]? = _
      rw [hh]
    · show w'.heap[b]? = _
      rw [hh]; exact hc
    · show w'.heap[b]? = _
      rw [hh]; exact hx
    · show w'.heap[b]? = _
      rw [hh]
    · show w'.heap[b]? = _
      rw [hh]; exact hb.1
  refine ⟨h.ext.trans hx h.le, h.le, h.heap.mono hx (Nat.le_refl _) (fun id _ => by show w'.heap[_]? = _; rw [hh]) (fun id ho => h.heap.own id ho) (fun b hb => ?_) h.heap.disj, h.rel.mono hx (Nat.le_refl _)⟩
  show b < w'.heap.size
  rw [hh]
  exact h.heap.low b hb
theorem row_sound {c : Cf} {n : Nat} {hp : Heap} (hH : RelH c n hp) {id wd cap : Nat} {a : Addr} (ha : a.spot = none) (hab : a.block = c.bk id) (hao : a.off = 0 ∨ cap = 0) {xl zs : Ls} {cur row : Array Value} {e' : TypeId} {fz : Nat × Nat} (hl : lk hp id = .arr wd xl) (h1 : c.w.heap[c.bk id]? = some (.cells cur e' fz))
    (h2 : ∀ o, o < cur.size + mkd wd → ¬ (fz.1 ≤ o ∧ o < fz.2)) (hs : row.size = cur.size) (hw0 : 0 < wd) (hcap : cap * wd ≤ cur.size) (haf : a.off ≤ cur.size) (hlen : zs.xs.length ≤ cap) (hwz : ∀ x ∈ zs.xs, x.width = wd)
    (ho1 : ∀ j, j < zs.xs.length * wd → (row.getD j undef).oneCell' = true) (hr : ∀ (j k : Nat) (x d : D), zs.xs[j]? = some x → x.cells[k]? = some d → RelD c.w c.I d (row.getD (j * wd + k) undef)) :
    ∃ c', c'.w = c.w.setRow (c.bk id) row ∧ Outs c n (.mf n wd, n + 1, (n, .arr wd zs) :: (id, .dead) :: hp) (.slice (some a) zs.xs.length cap) c' := by
  have ho : (lk hp id).own = true := by rw [hl]; rfl
  have hid : id < n := hH.lt id (by rw [hl]; simp)
  have hx1 : Ext c n (c.wrote (c.bk id) row) := ext_wrote h1 hs (hH.own id ho) (hH.ownK id ho)
  let c' : Cf := { w := (c.wrote (c.bk id) row).w, I := c.I, K := c.K, bk := fun k => if k = n then c.bk id else c.bk k, ln := fun k => if k = n then zs.xs.length else c.ln k, G := c.G }
  have hx : Ext c n c' := ⟨hx1.size, hx1.kept, hx1.shape, hx1.loops, fun k hk => by simp only [c']; rw [if_neg (by omega)], fun k hk => by simp only [c']; rw [if_neg (by omega)], rfl, rfl, hx1.keptK, hx1.os, hx1.tape, hx1.output, fun b hb => hx1.defs b hb⟩
  have hbn : c'.bk n = c.bk id := by simp [c']
  have hln' : c'.ln n = zs.xs.length := by simp [c']
  have hheap : c'.w.heap[c.bk id]? = some (.cells row e' fz) := setRow_heap c.w _ cur _ e' fz h1
  have hd := relH_dead hH hid
  have hm : RelH c' (n + 1) ((id, .dead) :: hp) := hd.mono hx (Nat.le_succ n) (fun id' ho' => by
      rw [lk_cons] at ho'
      split at ho'
      · cases ho'
      · rename_i hne
        exact setRow_other c.w _ _ _ (fun e => hne (hH.inj id id' ho ho' e.symm))) (fun id' ho' => hd.own id' ho') (fun b hb => by have := hH.low b hb; simpa [c', Cf.wrote] using this) hH.disj
  have hmul := Nat.mul_le_mul_right wd hlen
  refine ⟨c', rfl, hx, Nat.le_succ n, hm.push (Nat.lt_succ_self n) ⟨⟨hln', row, e', fz, by rw [hbn]; exact hheap, fun o ho => h2 o (by omega), hwz, hw0, by omega, ho1, fun j k x d hj hd => (hr j k x d hj hd).mono hx.kept⟩, by rw [hbn]; exact hH.own id ho⟩ (fun _ id' hne ho' => ?_) (fun _ => by rw [hbn]; exact hH.ownK id ho), ?_⟩
  · rw [lk_cons] at ho'
    split at ho'
    · cases ho'
    · rename_i hne'
      have hlt := hH.lt id' (by intro e; rw [e] at ho'; cases ho')
      rw [hbn, hx.bk id' hlt]
      exact fun e => hne' (hH.inj id id' ho ho' e)
  · have := RelV.mf (c := c') (n := n + 1) n wd cap a (Nat.lt_succ_self n) (by rw [hln']; exact hlen) ha (by rw [hbn]; exact hab) hao ⟨row, e', fz, by rw [hbn]; exact hheap, by rw [hs]; exact hcap, by rw [hs]; exact haf⟩
    rw [hln'] at this
    exact this
theorem new_sound {c : Cf} {n : Nat} {hp : Heap} (hH : RelH c n hp) (e : TypeId) {wd cap : Nat} {zs : Ls} {row : Array Value} (hw0 : 0 < wd) (hs : row.size = cap * wd) (hlen : zs.xs.length ≤ cap) (hwz : ∀ x ∈ zs.xs, x.width = wd)
    (ho1 : ∀ j, j < zs.xs.length * wd → (row.getD j undef).oneCell' = true) (hr : ∀ (j k : Nat) (x d : D), zs.xs[j]? = some x → x.cells[k]? = some d → RelD c.w c.I d (row.getD (j * wd + k) undef)) :
    ∃ c', c'.w = c.w.alloc (.cells row e (0, 0)) ∧ Outs c n (.mf n wd, n + 1, (n, .arr wd zs) :: hp) (.slice (some ⟨c.w.heap.size, 0, none⟩) zs.xs.length cap) c' := by
  have hmul := Nat.mul_le_mul_right wd hlen
  have hf : Flat c.w c.I wd zs.xs (row.extract 0 (zs.xs.length * wd)) := by
    have := Flat.of_row (w := c.w) (I := c.I) (wd := wd) (ys := zs.xs) (cs := row) (o := 0) (by omega) hwz (fun j hj => by rw [Nat.zero_add]; exact ho1 j hj) (fun j k y d hj hd => by rw [Nat.zero_add]; exact hr j k y d hj hd)
    rw [Nat.zero_add] at this
    exact this
  have he : row.extract 0 (zs.xs.length * wd) ++ row.extract (zs.xs.length * wd) row.size = row := by
    rw [Array.extract_append_extract]
    simp
    omega
  have := arr_new hH e hw0 (zs := zs) rfl hf hlen (by rw [he]; exact hs) (0, 0) (by intro o _; simp)
  rw [he] at this
  exact ⟨_, rfl, this⟩
theorem rowAt_arr {c : Cf} {id wd len : Nat} {xs : List D} (h : Arr c id wd xs) (hl : len ≤ xs.length) : ∃ cur, RowAt c.w ⟨c.bk id, 0, none⟩ (len * wd) cur ∧ (∃ e fz, c.w.heap[c.bk id]? = some (.cells cur e fz) ∧ ∀ o, o < cur.size + mkd wd → ¬ (fz.1 ≤ o ∧ o < fz.2)) ∧
    (∀ x ∈ xs, x.width = wd) ∧ ∀ (j k : Nat) (x d : D), xs[j]? = some x → x.cells[k]? = some d → RelD c.w c.I d (cur.getD (j * wd + k) undef) := by
  obtain ⟨_, cur, e, fz, h1, h2, h3, h4, h5, h6, h7⟩ := h
  have := Nat.mul_le_mul_right wd hl
  exact ⟨cur, ⟨rfl, e, fz, h1, by show 0 + len * wd ≤ cur.size; omega, fun j hj => by show (cur.getD (0 + j) undef).oneCell' = true; rw [Nat.zero_add]; exact h6 j (by omega)⟩, ⟨e, fz, h1, h2⟩, h3, h7⟩
theorem addr_eta : ∀ (x : Addr) (b : Nat), x.block = b → x.off = 0 → x.spot = none → x = ⟨b, 0, none⟩ := by
  rintro ⟨_, _, _⟩ b rfl rfl rfl
  rfl
theorem ownL_spec {hp : Heap} {v : V} {id w : Nat} {xs : Ls} (h : ownL hp v = some (id, w, xs)) : ∃ ys : Ls, lk hp id = .arr w ys ∧ xs.xs.length ≤ ys.xs.length ∧ (xs.xs = ys.xs.take xs.xs.length) ∧
    ∀ {c : Cf} {n : Nat} {val : Value}, RelH c n hp → RelV c n v val → ∃ a cap, val = .slice (some a) xs.xs.length cap ∧ xs.xs.length ≤ cap ∧ a.spot = none ∧ a.block = c.bk id ∧ (a.off = 0 ∨ cap = 0) ∧ ∃ cs e fz, c.w.heap[c.bk id]? = some (.cells cs e fz) ∧ cap * w ≤ cs.size := by
  unfold ownL at h
  split at h
  · split at h
    · rename_i x0 id' w' x1 w'' ys hl
      obtain ⟨hc, h⟩ := cond_some h
      simp only [Option.some.injEq, Prod.mk.injEq] at h
      obtain ⟨rfl, rfl, rfl⟩ := h
      have hw : w'' = w' := by simpa using hc
      subst hw
      refine ⟨ys, hl, Nat.le_refl _, by simp, fun {c n val} hH hr => ?_⟩
      cases hr with
      | mf _ _ cap a hid hcap ha hb ho hs =>
        have hln : c.ln id' = ys.xs.length := (hH.arr id' _ ys hl).1
        obtain ⟨cs, e, fz, g1, g2, g3⟩ := hs
        rw [hln] at hcap ⊢
        exact ⟨a, cap, rfl, hcap, ha, hb, ho, cs, e, fz, g1, g2⟩
    · cases h
  · split at h
    · rename_i x0 id' w' off len x1 w'' ys hl
      obtain ⟨hc, h⟩ := cond_some h
      simp only [Option.some.injEq, Prod.mk.injEq] at h
      obtain ⟨rfl, rfl, rfl⟩ := h
      simp only [Bool.and_eq_true, beq_iff_eq] at hc
      obtain ⟨⟨rfl, rfl⟩, hle⟩ := hc
      have hle := Nat.le_of_ble_eq_true hle
      rw [Ls.len_xs] at hle
      have hcut : (ys.cut 0 len).xs = ys.xs.take len := by rw [Ls.cut_xs]; simp
      have hlen : (ys.cut 0 len).xs.length = len := by rw [hcut]; simp; omega
      refine ⟨ys, hl, by omega, by rw [hlen, hcut], fun {c n val} hH hr => ?_⟩
      cases hr with
      | ms _ _ _ _ cap a hid hcap ha hb ho hs =>
        obtain ⟨cs, e, fz, g1, g2, g3⟩ := hs
        rw [hlen]
        exact ⟨a, cap, rfl, hcap, ha, hb, by simpa using ho, cs, e, fz, g1, by simpa using g2⟩
    · cases h
  · cases h
theorem insV_sound {G : Nat → Option (List D)} {g : FuncId} {e : TypeId} (hC : InsC P g e ∧ P.cellsOf e ≠ 1) {xs : List V} {n : Nat} {hp : Heap} {r : V × Nat × Heap} (h : insV P e xs n hp = some r) : Enters P g ∧ MCall P G g xs n hp r := by
  obtain ⟨hC, hne1⟩ := hC
  refine ⟨hC.ent, ?_⟩
  intro c vs _ _ hH hL
  unfold insV at h
  split at h
  · rename_i s k v
    split at h
    · rename_i iv wv ys hv
      obtain ⟨hc, h⟩ := cond_some h
      simp only [Bool.and_eq_true, beq_iff_eq] at hc
      obtain ⟨⟨hy1, rfl⟩, hsz⟩ := hc
      have hsz : 0 < sz P e := Nat.le_of_ble_eq_true hsz
      have hmk : mkd (sz P e) = 1 := by
        unfold mkd
        have : Nat.beq (sz P e) 1 = false := by rw [← Bool.not_eq_true, Nat.beq_eq]; exact hne1
        rw [this]; rfl
      obtain ⟨hlv, hgv⟩ := hL
      obtain ⟨vS, hvS, rS⟩ := hgv 0 s rfl
      obtain ⟨vK, hvK, rK⟩ := hgv 1 _ rfl
      obtain ⟨vV, hvV, rV⟩ := hgv 2 v rfl
      have hvs : vs = #[vS, vK, vV] := by
        have hl3 : vs.toList.length = 3 := hlv
        apply Array.toList_inj.1
        match hvl : vs.toList, hl3 with
        | [a, b, d], _ =>
          rw [hvl] at hvS hvK hvV
          simp at hvS hvK hvV
          simp [hvS, hvK, hvV]
      subst hvs
      cases rK.inv_d
      obtain ⟨yv, hlw, hle, htk, hvs⟩ := ownL_spec hv
      obtain ⟨av, vc, rfl, hvc, hav, hbv, hov, cv, ev, fv, hcv, hcv2⟩ := hvs hH rV
      have hy1 : ys.xs.length = 1 := by rw [← Ls.len_xs]; exact Nat.eq_of_beq_eq_true hy1
      rw [hy1] at hvc hle ⊢
      have hav : av = ⟨c.bk iv, 0, none⟩ := by
        have := hov.resolve_right (by omega)
        cases av; simp_all
      subst hav
      obtain ⟨new, hnew, ⟨ev', fv', hnc, hnf⟩, hnw, hnr⟩ := rowAt_arr (hH.arr iv _ yv hlw) hle
      rw [Nat.one_mul] at hnew
      rw [hmk] at hnf
      obtain ⟨y, hy⟩ : ∃ y, ys.xs = [y] := by
        match hh : ys.xs, hy1 with
        | [y], _ => exact ⟨y, rfl⟩
      have hy0 : yv.xs[0]? = some y := by
        have : ys.xs[0]? = (yv.xs.take ys.xs.length)[0]? := congrArg (·[0]?) htk
        rw [hy1, List.getElem?_take_of_lt (by omega), hy] at this
        rw [← this]; rfl
      have hyw : y.width = sz P e := hnw y (List.mem_of_getElem? hy0)
      have hyr : ∀ (m : Nat) (d : D), y.cells[m]? = some d → RelD c.w c.I d (new.getD m undef) := fun m d hd => by
        have := hnr 0 m y d hy0 hd
        rwa [Nat.zero_mul, Nat.zero_add] at this
      have hiv : iv < n := hH.lt iv (by rw [hlw]; simp)
      have hHv := relH_dead hH hiv
      obtain ⟨-, en, fn, hn1, hn2, hn3⟩ := hnew
      have hn2 : sz P e ≤ new.size := by
        have : 0 + sz P e ≤ new.size := hn2
        omega
      have hn3 : ∀ j, j < sz P e → (new.getD j undef).oneCell' = true := fun j hj => by
        have : (new.getD (0 + j) undef).oneCell' = true := hn3 j hj
        rwa [Nat.zero_add] at this
      have hrow : RowAt c.w ⟨c.bk iv, 0, none⟩ (P.cellsOf e) new := ⟨rfl, en, fn, hn1, by show 0 + _ ≤ _; rw [Nat.zero_add]; exact hn2, fun j hj => by show (new.getD (0 + j) undef).oneCell' = true; rw [Nat.zero_add]; exact hn3 j hj⟩
      have bounds : ∀ {len : Nat}, insB P e k len = true → 0 ≤ k ∧ k.toNat ≤ len ∧ ((k.toNat : Nat) : Int) = k ∧ (len + 1) * P.bytesOf e ≤ 140737488355328 ∧ len + 1 ≤ 140737488355328 := by
        intro len hb
        unfold insB at hb
        simp only [Bool.and_eq_true, decide_eq_true_eq] at hb
        obtain ⟨⟨⟨h1, h2⟩, h3⟩, h4⟩ := hb
        exact ⟨h1, by omega, by omega, Nat.le_of_ble_eq_true h3, Nat.le_of_ble_eq_true h4⟩
      -- growing, whatever the memory of the list
      have growing : ∀ (hp1 : Heap) (base : Option Addr) (xl : Ls) (cap o : Nat) (cur : Array Value), RelH c n hp1 → (xl.xs.length = 0 ∨ ∃ a, base = some a ∧ a.off = o ∧ RowAt c.w a (xl.xs.length * P.cellsOf e) cur) → (∀ x ∈ xl.xs, x.width = sz P e) →
          (∀ (j m : Nat) (x d : D), xl.xs[j]? = some x → x.cells[m]? = some d → RelD c.w c.I d (cur.getD (o + (j * sz P e + m)) undef)) → insB P e k xl.xs.length = true → xl.xs.length ≤ cap → cap < xl.xs.length + 1 → ∀ (zs : Ls), zs.xs = xl.xs.take k.toNat ++ ys.xs ++ xl.xs.drop k.toNat →
          Calls P g #[.slice base xl.xs.length cap, .int .i64 k, .slice (some ⟨c.bk iv, 0, none⟩) 1 vc] c.w fun ex w' => ∃ v c', ex = .returned v ∧ w' = c'.w ∧ Outs c n (.mf n (sz P e), n + 1, (n, .arr (sz P e) zs) :: hp1) v c' := by
        intro hp1 base xl cap o cur hH1 hbase hwx hxr hb hcap1 hcap2 zs hzs
        obtain ⟨hk0, hk1, hk2, hb1, hb2⟩ := bounds hb
        have hcall := hC.grow c.w base xl.xs.length k.toNat cap (c.bk iv) vc cur new o hbase hk1 hcap1 hcap2 hrow hb1 hb2
        rw [hk2] at hcall
        refine hcall.mono ?_
        rintro ex w' ⟨cap', row, hc1, rfl, hh, hrs, hrj, hq⟩
        have hzl : zs.xs.length = xl.xs.length + 1 := by rw [hzs, hy]; simp; omega
        have hcur1 : ∀ j, j < xl.xs.length * sz P e → (cur.getD (o + j) undef).oneCell' = true := by
          rcases hbase with h0 | ⟨a, _, rfl, _, _, _, _, _, h1⟩
          · intro j hj; rw [h0, Nat.zero_mul] at hj; omega
          · exact h1
        have hlt : ∀ (j m : Nat) (x d : D), zs.xs[j]? = some x → x.cells[m]? = some d → j * sz P e + m < (xl.xs.length + 1) * sz P e := by
          intro j m x d hj hd
          have h1 := (List.getElem?_eq_some_iff.1 hj).1
          have h2 := (List.getElem?_eq_some_iff.1 hd).1
          have h3 : x.width = sz P e := by
            have := List.mem_of_getElem? hj
            rw [hzs, hy] at this
            simp only [List.mem_append, List.mem_singleton] at this
            rcases this with (h | rfl) | h
            · exact hwx x (List.mem_of_mem_take h)
            · exact hyw
            · exact hwx x (List.mem_of_mem_drop h)
          have h4 : x.cells.length = sz P e := h3
          have := mul_lt_of_lt (wd := sz P e) (show j < xl.xs.length + 1 by omega)
          omega
        obtain ⟨c', hcw, hout⟩ := new_sound hH1 e (zs := zs) (row := row) (cap := cap') hsz hrs (by omega) (fun x hx => by
            rw [hzs, hy] at hx
            simp only [List.mem_append, List.mem_singleton] at hx
            rcases hx with (h | rfl) | h
            · exact hwx x (List.mem_of_mem_take h)
            · exact hyw
            · exact hwx x (List.mem_of_mem_drop h))
          (fun j hj => by
            rw [hzl] at hj
            rw [hrj j hj]
            exact ins_one hk1 hcur1 hn3 j hj)
          (fun j m x d hj hd => by
            rw [hrj _ (hlt j m x d hj hd)]
            rw [hzs, hy] at hj
            exact ins_rel hk1 hsz hwx hyw hxr hyr j m x d hj hd)
        have hout' := Quiet.out hout (w' := w') (by rw [hh, hcw]; rfl) (by rw [hcw]; exact ⟨hq.os, hq.tape, hq.output⟩)
        rw [hzl] at hout'
        exact ⟨_, _, rfl, rfl, hout'⟩
      split at h
      · -- nothing
        obtain ⟨hb, h⟩ := cond_some h
        injection h with h
        subst h
        cases rS.inv_d
        have hk0 : k.toNat = 0 := by have := (bounds hb).2.1; omega
        exact growing ((iv, .dead) :: hp) none (.r []) 0 0 #[] hHv (.inl rfl) (fun x hx => by cases hx) (fun j m x d hj => by simp [Ls.xs] at hj) hb (Nat.le_refl _) (by show 0 < 0 + 1; omega) ys (by simp [Ls.xs])
      · -- a list that has no room
        rename_i w xl _
        obtain ⟨hb, h⟩ := cond_some h
        injection h with h
        subst h
        simp only [Bool.and_eq_true, beq_iff_eq] at hb
        obtain ⟨rfl, hb⟩ := hb
        rw [Ls.len_xs] at hb
        cases rS with
        | fl0 _ _ ad hz =>
          have := growing ((iv, .dead) :: hp) ad xl 0 0 #[] hHv (.inl (by rw [hz]; rfl)) (fun x hx => by rw [hz] at hx; cases hx) (fun j m x d hj => by rw [hz] at hj; cases hj) hb (by rw [hz]; exact Nat.le_refl _) (by omega) (xl.ins k.toNat ys) (Ls.ins_xs ..)
          rw [hz] at this
          exact this
        | fl _ _ a hr =>
          rcases sl_inv hr with ⟨hz, _⟩ | ⟨_, cs, e', fz, hsp, hI, hcell, hcap, hw, hbb, h1, hh⟩
          · have := growing ((iv, .dead) :: hp) (some a) xl 0 0 #[] hHv (.inl (by rw [hz]; rfl)) (fun x hx => by rw [hz] at hx; cases hx) (fun j m x d hj => by rw [hz] at hj; cases hj) hb (by rw [hz]; exact Nat.le_refl _) (by omega) (xl.ins k.toNat ys) (Ls.ins_xs ..)
            rw [hz] at this ⊢
            exact this
          · exact growing ((iv, .dead) :: hp) (some a) xl xl.xs.length a.off cs hHv (.inr ⟨a, rfl, rfl, hsp, e', fz, hcell, hbb, h1⟩) hw (fun j m x d hj hd => by rw [← Nat.add_assoc]; exact hh j m x d hj hd) hb (Nat.le_refl _) (by omega) (xl.ins k.toNat ys) (Ls.ins_xs ..)
      · split at h
        · rename_i id w xl ho
          obtain ⟨hb, h⟩ := cond_some h
          injection h with h
          subst h
          simp only [Bool.and_eq_true, beq_iff_eq, Bool.not_eq_true', beq_eq_false_iff_ne] at hb
          obtain ⟨⟨rfl, hne⟩, hb⟩ := hb
          rw [Ls.len_xs] at hb
          obtain ⟨yl, hll, hle', htk', hvs'⟩ := ownL_spec ho
          obtain ⟨a, cap, rfl, hcap, hsp, hbl, hoff, cb, eb, fb, hcb, hcb2⟩ := hvs' hH rS
          obtain ⟨cur, hcur, ⟨eb', fb', hcc, hcf⟩, hcw, hcr⟩ := rowAt_arr (hH.arr id _ yl hll) hle'
          rw [hmk] at hcf
          have hid : id < n := hH.lt id (by rw [hll]; simp)
          have hoI : (lk hp id).own = true := by rw [hll]; rfl
          have hoV : (lk hp iv).own = true := by rw [hlw]; rfl
          have hbne : c.bk id ≠ c.bk iv := fun e => hne (hH.inj id iv hoI hoV e)
          have hsub : ∀ (j : Nat) (x : D), xl.xs[j]? = some x → yl.xs[j]? = some x := by
            intro j x hj
            rw [htk', List.getElem?_take] at hj
            split at hj
            · exact hj
            · cases hj
          have hwx : ∀ x ∈ xl.xs, x.width = sz P e := fun x hx => hcw x (by rw [htk'] at hx; exact List.mem_of_mem_take hx)
          have hlk : lk ((iv, .dead) :: hp) id = .arr (sz P e) yl := by rw [lk_cons, if_neg (fun e => hne e.symm)]; exact hll
          rw [hcc] at hcb
          injection hcb with hcb
          injection hcb with hcb
          subst hcb
          by_cases hroom : xl.xs.length + 1 ≤ cap
          · have hoff : a.off = 0 := hoff.resolve_right (by omega)
            have hae : a = ⟨c.bk id, 0, none⟩ := addr_eta a _ hbl hoff hsp
            subst hae
            obtain ⟨hk0, hk1, hk2, hb1, hb2⟩ := bounds hb
            obtain ⟨_, ec, fc, hc1, hc2, hc3⟩ := hcur
            have hc3 : ∀ j, j < xl.xs.length * sz P e → (cur.getD j undef).oneCell' = true := fun j hj => by
              have : (cur.getD (0 + j) undef).oneCell' = true := hc3 j hj
              rwa [Nat.zero_add] at this
            have hcall := hC.room c.w (c.bk id) xl.xs.length k.toNat cap (c.bk iv) vc cur new eb' ev' fb' fv' hk1 hroom hbne hb2 hcc hcf hcb2 hc3 hnc hnf hn2 hn3
            rw [hk2] at hcall
            refine hcall.mono ?_
            rintro ex w' ⟨row, rfl, hh, hrs, hrj, hq⟩
            obtain ⟨zs, hzs⟩ : ∃ zs, xl.ins k.toNat ys = zs := ⟨_, rfl⟩
            have hzx : zs.xs = xl.xs.take k.toNat ++ ys.xs ++ xl.xs.drop k.toNat := by rw [← hzs]; exact Ls.ins_xs ..
            rw [hzs]
            have hzl : zs.xs.length = xl.xs.length + 1 := by rw [hzx, hy]; simp; omega
            have hwz : ∀ x ∈ zs.xs, x.width = sz P e := fun x hx => by
              rw [hzx, hy] at hx
              simp only [List.mem_append, List.mem_singleton] at hx
              rcases hx with (h | rfl) | h
              · exact hwx x (List.mem_of_mem_take h)
              · exact hyw
              · exact hwx x (List.mem_of_mem_drop h)
            obtain ⟨c', hcw', hout⟩ := row_sound hHv (a := ⟨c.bk id, 0, none⟩) rfl rfl (.inl rfl) (zs := zs) (row := row) (cap := cap) hlk hcc (by rw [hmk]; exact hcf) hrs hsz hcb2 (Nat.zero_le _) (by omega) hwz
              (fun j hj => by
                rw [hzl] at hj
                rw [hrj j hj]
                exact ins_one (o := 0) hk1 (fun j hj => by rw [Nat.zero_add]; exact hc3 j hj) hn3 j hj)
              (fun j m x d hj hd => by
                have h1 := (List.getElem?_eq_some_iff.1 hj).1
                have h2 := (List.getElem?_eq_some_iff.1 hd).1
                have h4 : x.cells.length = sz P e := hwz x (List.mem_of_getElem? hj)
                have := mul_lt_of_lt (wd := sz P e) (show j < xl.xs.length + 1 by omega)
                rw [hrj _ (show j * sz P e + m < (xl.xs.length + 1) * sz P e by omega)]
                rw [hzx, hy] at hj
                exact ins_rel hk1 hsz hwx hyw (fun j m x d hj hd => by rw [Nat.zero_add]; exact hcr j m x d (hsub j x hj) hd) hyr j m x d hj hd)
            have hout' := Quiet.out hout (w' := w') (by rw [hh, hcw']) (by rw [hcw']; exact ⟨hq.os, hq.tape, hq.output⟩)
            rw [hzl] at hout'
            exact ⟨_, _, rfl, rfl, hout'⟩
          · have hrow' : xl.xs.length = 0 ∨ ∃ a', some a = some a' ∧ a'.off = 0 ∧ RowAt c.w a' (xl.xs.length * P.cellsOf e) cur := by
              rcases hoff with h0 | h0
              · right
                have hae : a = ⟨c.bk id, 0, none⟩ := addr_eta a _ hbl h0 hsp
                exact ⟨a, rfl, h0, by rw [hae]; exact hcur⟩
              · left; omega
            exact growing ((id, .dead) :: (iv, .dead) :: hp) (some a) xl cap 0 cur (relH_dead hHv hid) hrow' hwx (fun j m x d hj hd => by rw [Nat.zero_add]; exact hcr j m x d (hsub j x hj) hd) hb hcap (by omega) (xl.ins k.toNat ys) (Ls.ins_xs ..)
        · cases h
    · cases h
  · cases h
theorem Ls.del_xs (a : Ls) (k : Nat) : (a.del k).xs = a.xs.take k ++ a.xs.drop (k + 1) := by
  cases a with
  | r xs => rfl
  | t T l => simp only [Ls.del, Ls.xs, List.map_append, List.map_take, List.map_drop]
theorem getElem?_del {α : Type} (xs : List α) (k : Nat) (hk : k < xs.length) (j : Nat) : (xs.take k ++ xs.drop (k + 1))[j]? = if j < k then xs[j]? else xs[j + 1]? := by
  have hl : (xs.take k).length = k := by simp; omega
  by_cases h1 : j < k
  · rw [if_pos h1, List.getElem?_append_left (by omega), List.getElem?_take_of_lt h1]
  · rw [if_neg h1, List.getElem?_append_right (by omega), List.getElem?_drop]
    congr 1
    omega
theorem delV_sound {G : Nat → Option (List D)} {g : FuncId} {e : TypeId} (hC : DelC P g e ∧ P.cellsOf e ≠ 1) {xs : List V} {n : Nat} {hp : Heap} {r : V × Nat × Heap} (h : delV P e xs n hp = some r) : Enters P g ∧ MCall P G g xs n hp r := by
  obtain ⟨hC, hne1⟩ := hC
  refine ⟨hC.ent, ?_⟩
  intro c vs _ _ hH hL
  unfold delV at h
  split at h
  · rename_i s k j
    split at h
    · rename_i id w xl ho
      obtain ⟨hb, h⟩ := cond_some h
      injection h with h
      subst h
      unfold delB at hb
      simp only [Bool.and_eq_true, beq_iff_eq, decide_eq_true_eq] at hb
      obtain ⟨rfl, hsz, hk0, hk1, rfl, hbig⟩ := hb
      rw [Ls.len_xs] at hk1 hbig
      have hbig := Nat.le_of_ble_eq_true hbig
      have hsz : 0 < sz P e := Nat.le_of_ble_eq_true hsz
      have hmk : mkd (sz P e) = 1 := by
        unfold mkd
        have : Nat.beq (sz P e) 1 = false := by rw [← Bool.not_eq_true, Nat.beq_eq]; exact hne1
        rw [this]; rfl
      obtain ⟨hlv, hgv⟩ := hL
      obtain ⟨vS, hvS, rS⟩ := hgv 0 s rfl
      obtain ⟨vK, hvK, rK⟩ := hgv 1 _ rfl
      obtain ⟨vJ, hvJ, rJ⟩ := hgv 2 _ rfl
      have hvs : vs = #[vS, vK, vJ] := by
        have hl3 : vs.toList.length = 3 := hlv
        apply Array.toList_inj.1
        match hvl : vs.toList, hl3 with
        | [a, b, d], _ =>
          rw [hvl] at hvS hvK hvJ
          simp at hvS hvK hvJ
          simp [hvS, hvK, hvJ]
      subst hvs
      cases rK.inv_d
      cases rJ.inv_d
      obtain ⟨yl, hll, hle', htk', hvs'⟩ := ownL_spec ho
      obtain ⟨a, cap, rfl, hcap, hsp, hbl, hoff, cb, eb, fb, hcb, hcb2⟩ := hvs' hH rS
      obtain ⟨cur, hcur, ⟨eb', fb', hcc, hcf⟩, hcw, hcr⟩ := rowAt_arr (hH.arr id _ yl hll) hle'
      rw [hmk] at hcf
      have hsub : ∀ (j : Nat) (x : D), xl.xs[j]? = some x → yl.xs[j]? = some x := by
        intro j x hj
        rw [htk', List.getElem?_take] at hj
        split at hj
        · exact hj
        · cases hj
      have hwx : ∀ x ∈ xl.xs, x.width = sz P e := fun x hx => hcw x (by rw [htk'] at hx; exact List.mem_of_mem_take hx)
      rw [hcc] at hcb
      injection hcb with hcb
      injection hcb with hcb
      subst hcb
      obtain ⟨kn, rfl⟩ : ∃ kn : Nat, k = (kn : Int) := ⟨k.toNat, by omega⟩
      have hkn : kn < xl.xs.length := by omega
      have hoff : a.off = 0 := hoff.resolve_right (by omega)
      have hae : a = ⟨c.bk id, 0, none⟩ := addr_eta a _ hbl hoff hsp
      subst hae
      obtain ⟨_, ec, fc, hc1, hc2, hc3⟩ := hcur
      have hc3 : ∀ j, j < xl.xs.length * sz P e → (cur.getD j undef).oneCell' = true := fun j hj => by
        have : (cur.getD (0 + j) undef).oneCell' = true := hc3 j hj
        rwa [Nat.zero_add] at this
      have hcall := hC.del c.w (c.bk id) xl.xs.length kn cap cur eb' fb' hkn hcap hbig hcc hcf hcb2 hc3
      refine hcall.mono ?_
      rintro ex w' ⟨row, rfl, hh, hrs, hrj, hq⟩
      rw [Int.toNat_natCast]
      obtain ⟨zs, hzs⟩ : ∃ zs, xl.del kn = zs := ⟨_, rfl⟩
      have hzx : zs.xs = xl.xs.take kn ++ xl.xs.drop (kn + 1) := by rw [← hzs]; exact Ls.del_xs ..
      rw [hzs]
      have hzl : zs.xs.length = xl.xs.length - 1 := by rw [hzx]; simp; omega
      have hwz : ∀ x ∈ zs.xs, x.width = sz P e := fun x hx => by
        rw [hzx] at hx
        rcases List.mem_append.1 hx with h | h
        · exact hwx x (List.mem_of_mem_take h)
        · exact hwx x (List.mem_of_mem_drop h)
      have hmul : (xl.xs.length - 1) * sz P e + sz P e = xl.xs.length * sz P e := by
        rw [← Nat.succ_mul]; congr 1; omega
      have hmk' : kn * sz P e ≤ (xl.xs.length - 1) * sz P e := Nat.mul_le_mul_right _ (by omega)
      obtain ⟨c', hcw', hout⟩ := row_sound hH (a := ⟨c.bk id, 0, none⟩) rfl rfl (.inl rfl) (zs := zs) (row := row) (cap := cap) hll hcc (by rw [hmk]; exact hcf) hrs hsz hcb2 (Nat.zero_le _) (by omega) hwz
        (fun j hj => by
          rw [hzl] at hj
          have hj' : j < (xl.xs.length - 1) * P.cellsOf e := hj
          rw [hrj j hj']
          unfold delAt
          split
          · exact hc3 j (by omega)
          · exact hc3 (j + sz P e) (by omega))
        (fun j m x d hj hd => by
          have h1 := (List.getElem?_eq_some_iff.1 hj).1
          have h2 := (List.getElem?_eq_some_iff.1 hd).1
          have h4 : x.cells.length = sz P e := hwz x (List.mem_of_getElem? hj)
          have hlt := mul_lt_of_lt (wd := sz P e) (show j < xl.xs.length - 1 by omega)
          have hj' : j * sz P e + m < (xl.xs.length - 1) * P.cellsOf e := by
            show _ < (xl.xs.length - 1) * sz P e
            omega
          rw [hrj _ hj']
          rw [hzx, getElem?_del xl.xs kn hkn] at hj
          unfold delAt
          by_cases hjk : j < kn
          · rw [if_pos hjk] at hj
            have := mul_lt_of_lt (wd := sz P e) hjk
            rw [if_pos (show j * sz P e + m < kn * P.cellsOf e by show _ < kn * sz P e; omega)]
            exact hcr j m x d (hsub j x hj) hd
          · rw [if_neg hjk] at hj
            have h5 : kn * sz P e ≤ j * sz P e := Nat.mul_le_mul_right _ (by omega)
            rw [if_neg (show ¬ j * sz P e + m < kn * P.cellsOf e by show ¬ _ < kn * sz P e; omega)]
            have h6 := hcr (j + 1) m x d (hsub (j + 1) x hj) hd
            have h7 : (j + 1) * sz P e + m = j * sz P e + m + P.cellsOf e := by
              show _ = j * sz P e + m + sz P e
              rw [Nat.succ_mul]; omega
            rw [h7] at h6
            exact h6)
      have hout' := Quiet.out hout (w' := w') (by rw [hh, hcw']) (by rw [hcw']; exact ⟨hq.os, hq.tape, hq.output⟩)
      rw [hzl] at hout'
      exact ⟨_, _, rfl, rfl, hout'⟩
    · cases h
  · cases h
theorem cut_sound {c c' : Cf} {n : Nat} {r : V × Nat × Heap} {val : Value} (h : Outs c n r val c') : ∃ c'', c''.w = c'.w ∧ Outs c n (cutR r) val c'' := by
  unfold cutR
  split
  · rename_i id w off len hr
    cases ho0 : (off == 0)
    · exact ⟨c', rfl, h⟩
    · simp only [cond_true]
      split
      · rename_i w' xs hl
        cases hb : (w' == w && Nat.ble len xs.len)
        · exact ⟨c', rfl, h⟩
        · simp only [cond_true]
          simp only [Bool.and_eq_true, beq_iff_eq] at hb ho0
          obtain ⟨rfl, hle⟩ := hb
          subst ho0
          have hle := Nat.le_of_ble_eq_true hle
          rw [Ls.len_xs] at hle
          have hrel := h.rel
          rw [hr] at hrel
          obtain ⟨vs, hvs⟩ : ∃ vs, val = vs := ⟨_, rfl⟩
          have hcut : (xs.cut 0 len).xs = xs.xs.take len := by rw [Ls.cut_xs]; simp
          have hlen : (xs.cut 0 len).xs.length = len := by rw [hcut]; simp; omega
          cases hrel with
          | ms _ _ _ _ cap a hid hcap ha hb hao hs =>
            obtain ⟨hln, cur, e', fz, h1, h2, h3, h4, h5, h6, h7⟩ := h.heap.arr id _ xs hl
            obtain ⟨cs, e'', fz', g1, g2, g3⟩ := hs
            rw [h1] at g1
            injection g1 with g1
            injection g1 with g1
            subst g1
            have hmul := Nat.mul_le_mul_right w' hle
            obtain ⟨c'', hw, hout⟩ := row_sound h.heap ha hb (by simpa using hao) (zs := xs.cut 0 len) (row := cur) (cap := cap) hl h1 h2 rfl h4 (by simpa using g2) g3 (by omega) (fun x hx => h3 x (by rw [hcut] at hx; exact List.mem_of_mem_take hx))
              (fun j hj => by rw [hlen] at hj; exact h6 j (by omega)) (fun j k x d hj hd => by
                rw [hcut, List.getElem?_take] at hj
                split at hj
                · exact h7 j k x d hj hd
                · cases hj)
            rw [hlen] at hout
            refine ⟨c'', ?_, h.ext.trans hout.ext h.le, Nat.le_trans h.le hout.le, hout.heap, hout.rel⟩
            rw [hw, setRow_self c'.w _ cur e' fz h1]
      · exact ⟨c', rfl, h⟩
  · exact ⟨c', rfl, h⟩
theorem MCall.cut {G : Nat → Option (List D)} {g : FuncId} {xs : List V} {n : Nat} {hp : Heap} {r : V × Nat × Heap} (h : MCall P G g xs n hp r) : MCall P G g xs n hp (cutR r) := by
  intro c vs hG hg hH hL
  refine (h c vs hG hg hH hL).mono ?_
  rintro e w' ⟨v, c', rfl, rfl, ho⟩
  obtain ⟨c'', hw, ho'⟩ := cut_sound ho
  exact ⟨v, c'', rfl, hw.symm, ho'⟩
end Go.Fw
end
section
set_option linter.unusedVariables false
set_option linter.unusedSimpArgs false
namespace Go.Fw
variable {P : Program}

theorem put_size (a : Act) (dst : Option Nat) (v : Value) : (a.put dst v).tmps.size = a.tmps.size := by
  cases dst <;> simp [Act.put]
theorem put_defers (a : Act) (dst : Option Nat) (v : Value) : (a.put dst v).defers = a.defers := by
  cases dst <;> rfl

theorem SR.put {G : Nat → Option (List D)} {lo nt : Nat} {c c' : Cf} {st : St} {a : Act} (h : SR G lo nt c st a) {r : V × Nat × Heap} {v : Value} (ho : Outs c st.n r v c') {dst : Option Nat} (hd : ∀ d, dst = some d → d < nt) :
    SR G lo nt c' (St.put { st with n := r.2.1, h := r.2.2 } dst r.1) (a.put dst v) := by
  refine ⟨ho.ext.G.trans h.g, ?_, ?_, by rw [put_size]; exact h.size, by rw [put_defers]; exact h.defers.mono ho.ext⟩
  · have h1 : RelS c' r.2.1 st.f a.tmps := h.s.mono ho.ext ho.le
    cases dst with
    | none => exact h1
    | some d => exact h1.put ho.rel (Nat.lt_of_lt_of_le (hd d rfl) h.size)
  · cases dst <;> exact ho.heap

theorem SR.skip {G : Nat → Option (List D)} {lo nt : Nat} {c : Cf} {st : St} {a : Act} (h : SR G lo nt c st a) {dst : Option Nat} (hd : ∀ d, dst = some d → d < nt) : SR G lo nt c (st.put dst (.d (.tp []))) (a.put dst undef) := by
  refine ⟨h.g, ?_, ?_, by rw [put_size]; exact h.size, by rw [put_defers]; exact h.defers⟩
  · cases dst with
    | none => exact h.s
    | some d => exact h.s.put (.d _ _ (.tp [] #[] rfl (by simp))) (Nat.lt_of_lt_of_le (hd d rfl) h.size)
  · cases dst <;> exact h.h

theorem evOp_defer {h : Hs} {o : Oper} {f : Slots} {n : Nat} {hp : Heap} {r : V × Nat × Heap} (he : evOp P h o f n hp = some r) : noDefer o.op = true := by
  cases ho : o.op <;> first | rfl | (unfold evOp at he; rw [ho] at he; cases he)
theorem evOp_wp {ro : Option Nat} {h : Hs} (hok : CallsOK P h) {o : Oper} {f : Slots} {n : Nat} {hp : Heap} {a : Act} {c : Cf} {r : V × Nat × Heap} (he : evOp P h o f n hp = some r) (hG : h.G = c.G) (hs : RelS c n f a.tmps) (hH : RelH c n hp)
    {K : Act → World → Prop} {Q : Exit → Act → World → Prop} (hK : ∀ v c', Outs c n r v c' → K (a.put o.dst v) c'.w) : o.wpIn (Fe ro) 3 P a c.w K Q := by
  by_cases hcf : callFree o.op = true
  · obtain ⟨v, c', hr, ho⟩ := evOp_sound hcf he hG hs hH
    exact hr.wp (evOp_defer he) (hK v c' ho)
  · unfold evOp at he
    unfold callFree at hcf
    split at hcf
    · rename_i cl hop
      rw [hop] at he
      simp only [] at he
      split at he
      · rename_i hcl; rw [hcl] at hcf; exact absurd rfl hcf
      · rename_i hcl; rw [hcl] at hcf; exact absurd rfl hcf
      · rename_i hcl; rw [hcl] at hcf; exact absurd rfl hcf
      · rename_i hcl; rw [hcl] at hcf; exact absurd rfl hcf
      · rename_i g hcl
        exact calleeV_wp hok hop hcl he hG hs hH hK
      · cases he
    · exact absurd rfl hcf

theorem step1_wp {ro : Option Nat} {h : Hs} (hok : CallsOK P h) {lo nt : Nat} {o : Oper} {st st' : St} {a : Act} {c : Cf} (he : step1 P h o st = some st') (hr : SR h.G lo nt c st a) (hd : ∀ d, o.dst = some d → d < nt)
    {K : Act → World → Prop} {Q : Exit → Act → World → Prop} (hK : ∀ v c', Ext c st.n c' → st.n ≤ st'.n → SR h.G lo nt c' st' (a.put o.dst v) → K (a.put o.dst v) c'.w) : o.wpIn (Fe ro) 3 P a c.w K Q := by
  unfold step1 at he
  split at he
  · rename_i v n hp hop
    injection he with he
    subst he
    refine evOp_wp hok hop hr.g.symm hr.s hr.h fun val c' ho => hK _ c' ho.ext ?_ (hr.put ho hd)
    have := ho.le
    cases o.dst <;> exact this
  · cases he

theorem yielded_of {all : Array Oper} {c : Cf} {n : Nat} {f : Slots} {a : Act} (hs : RelS c n f a.tmps) {nt : Nat} (hsz : nt ≤ a.tmps.size) {j t : Nat} {x : Bool} (hg : guardAt all.toList j = some t) (ht : t < nt) (hx : get f t = .d (.b x)) :
    yielded all a.tmps j = some x := by
  have h1 := hs.get t
  rw [hx] at h1
  unfold yielded
  unfold guardAt at hg
  rw [Array.getElem?_toList] at hg
  rw [hg]
  simp only [Option.bind_some]
  have h2 : a.tmps[t]? = some (a.tmps.getD t undef) := by rw [Array.getD_eq_getD_getElem?, Array.getElem?_eq_getElem (by omega)]; rfl
  rw [h2]
  generalize a.tmps.getD t undef = v at h1
  cases h1.inv_d
  rfl

theorem yielded_none {all : Array Oper} {c : Cf} {n : Nat} {f : Slots} {a : Act} (hs : RelS c n f a.tmps) {nt : Nat} (hsz : nt ≤ a.tmps.size) {j t : Nat} (hg : guardAt all.toList j = some t) (ht : t < nt) (hx : get f t = .d (.tp [])) :
    yielded all a.tmps j = none := by
  have h1 := hs.get t
  rw [hx] at h1
  unfold yielded
  unfold guardAt at hg
  rw [Array.getElem?_toList] at hg
  rw [hg]
  simp only [Option.bind_some]
  have h2 : a.tmps[t]? = some (a.tmps.getD t undef) := by rw [Array.getD_eq_getD_getElem?, Array.getElem?_eq_getElem (by omega)]; rfl
  rw [h2]
  generalize a.tmps.getD t undef = v at h1
  cases h1.inv_d
  rfl

theorem evOper_wp {ro : Option Nat} {h : Hs} (hok : CallsOK P h) {lo nt : Nat} {all : Array Oper} (hall : ∀ o ∈ all.toList, ∀ d, o.dst = some d → d < nt) {o : Oper} (hin : o ∈ all.toList) {st st1 : St} {a : Act} {c : Cf}
    (he : evOper P h all.toList o st = some st1) (hr : SR h.G lo nt c st a) {K : Act → World → Prop} {Q : Exit → Act → World → Prop}
    (hK : ∀ v c', Ext c st.n c' → st.n ≤ st1.n → SR h.G lo nt c' st1 (a.put o.dst v) → K (a.put o.dst v) c'.w) :
    if Region.wanted o (yielded all a.tmps) then o.wpIn (Fe ro) 3 P a c.w K Q else (∀ f, o.about P c.w a.eval = some f → (Fe ro).fn f) ∧ K (a.put o.dst undef) c.w := by
  have hd : ∀ d, o.dst = some d → d < nt := hall o hin
  unfold evOper at he
  have skip : st1 = st.put o.dst (.d (.tp [])) → K (a.put o.dst undef) c.w := by
    rintro rfl
    refine hK _ c (.refl c _) ?_ (hr.skip hd)
    cases o.dst <;> exact Nat.le_refl _
  split at he
  · rename_i hg
    rw [if_pos (by simp [Region.wanted, hg])]
    exact step1_wp hok he hr hd hK
  · rename_i j want hg
    split at he
    · rename_i t ht
      have htl : t < nt := by
        unfold guardAt at ht
        obtain ⟨o', ho', hd'⟩ := Option.bind_eq_some_iff.1 ht
        exact hall o' (List.mem_of_getElem? ho') t hd'
      split at he
      · rename_i x hx
        have hy := yielded_of hr.s hr.size ht htl hx
        by_cases hxw : (x == want) = true
        · rw [hxw] at he
          rw [if_pos (by simp [Region.wanted, hg, hy]; simpa using hxw)]
          exact step1_wp hok he hr hd hK
        · rw [Bool.eq_false_iff.mpr hxw] at he
          injection he with he
          rw [if_neg (by simp [Region.wanted, hg, hy]; simpa using hxw)]
          exact ⟨fun f _ => Fe_fn ro f, skip he.symm⟩
      · rename_i hx
        have hy := yielded_none hr.s hr.size ht htl hx
        injection he with he
        rw [if_neg (by simp [Region.wanted, hg, hy])]
        exact ⟨fun f _ => Fe_fn ro f, skip he.symm⟩
      · cases he
    · cases he

theorem evOps_wp {ro : Option Nat} {h : Hs} (hok : CallsOK P h) {lo nt : Nat} {all : Array Oper} (hall : ∀ o ∈ all.toList, ∀ d, o.dst = some d → d < nt) {Q : Exit → Act → World → Prop} : ∀ (os : List Oper) (st st' : St) (a : Act) (c : Cf), (∀ o ∈ os, o ∈ all.toList) →
    evOps P h all.toList os st = some st' → SR h.G lo nt c st a → (∀ a' c', Ext c st.n c' → st.n ≤ st'.n → SR h.G lo nt c' st' a' → Q .normal a' c'.w) → wpListIn (Fe ro) 3 P all Q os a c.w
  | [], st, st', a, c, hin, he, hr, hQ => by
    simp only [evOps, Option.some.injEq] at he
    subst he
    exact hQ a c (.refl c _) (Nat.le_refl _) hr
  | o :: os, st, st', a, c, hin, he, hr, hQ => by
    simp only [evOps] at he
    split at he
    · rename_i st1 h1
      unfold wpListIn
      exact evOper_wp hok hall (hin o List.mem_cons_self) h1 hr fun v c' hx hn hr' =>
        evOps_wp hok hall os st1 st' _ c' (fun o ho => hin o (List.mem_cons_of_mem _ ho)) he hr' fun a2 c2 hx2 hn2 hr2 => hQ a2 c2 (hx.trans hx2 hn) (Nat.le_trans hn hn2) hr2
    · cases he

end Go.Fw
end
section
set_option linter.unusedVariables false
set_option linter.unusedSimpArgs false
namespace Go.Fw
variable {P : Program}

theorem RelV.inB {c : Cf} {n : Nat} {x : V} {v : Value} (h : RelV c n x v) : inB (fun id => Nat.blt id n) x = true := by
  have hs : ∀ (cs : List V) (vs : Array Value), vs.size = cs.length → (∀ (j : Nat) (x : V), cs[j]? = some x → Fw.inB (fun id => Nat.blt id n) x = true) → inBs (fun id => Nat.blt id n) cs = true := by
    intro cs
    induction cs with
    | nil => intro vs _ _; rfl
    | cons x cs ih =>
      intro vs hl hx
      simp only [inBs, Bool.and_eq_true]
      refine ⟨hx 0 x rfl, ih (vs.extract 1 vs.size) (by simp at hl ⊢; omega) fun j y hj => hx (j + 1) y (by simpa using hj)⟩
  have hsl : ∀ (sl : List (Nat × V)), (∀ (j : Nat) (x : Nat × V), sl[j]? = some x → Fw.inB (fun id => Nat.blt id n) x.2 = true) → inBsl (fun id => Nat.blt id n) sl = true := by
    intro sl
    induction sl with
    | nil => intro _; rfl
    | cons x sl ih =>
      intro hx
      obtain ⟨k, x⟩ := x
      simp only [inBsl, Bool.and_eq_true]
      exact ⟨hx 0 (k, x) rfl, ih fun j y hj => hx (j + 1) y (by simpa using hj)⟩
  induction h with
  | d x v h => rfl
  | ag cs vs hl h1 h ih => exact hs cs vs hl ih
  | tp cs vs hl h ih => exact hs cs vs hl ih
  | fn f cs vs hl h ih => exact hs cs vs hl ih
  | bm f cs vs hl h ih => exact hs cs vs hl ih
  | pt id off hid => simpa [Fw.inB, Nat.blt_eq] using hid
  | mf id wd cap a hid => simpa [Fw.inB, Nat.blt_eq] using hid
  | ms id wd off len cap a hid => simpa [Fw.inB, Nat.blt_eq] using hid
  | ep id wd k o hid => simpa [Fw.inB, Nat.blt_eq] using hid
  | rp => rfl
  | fl => rfl
  | fl0 => rfl
  | mp id hid => simpa [Fw.inB, Nat.blt_eq] using hid
  | yd id sl ps assign body tm hid hl hk h ih =>
    simp only [Fw.inB, Bool.and_eq_true]
    exact ⟨by simpa [Nat.blt_eq] using hid, hsl sl ih⟩
  | junk v => rfl

theorem inBs_all {p : Nat → Bool} : ∀ {cs : List V}, inBs p cs = true → ∀ (j : Nat) (x : V), cs[j]? = some x → inB p x = true
  | [], _, j, x, hj => by simp at hj
  | y :: cs, h, j, x, hj => by
    simp only [inBs, Bool.and_eq_true] at h
    cases j with
    | zero => simp at hj; subst hj; exact h.1
    | succ j => exact inBs_all h.2 j x (by simpa using hj)

theorem inBsl_all {p : Nat → Bool} : ∀ {cs : List (Nat × V)}, inBsl p cs = true → ∀ (j : Nat) (x : Nat × V), cs[j]? = some x → inB p x.2 = true
  | [], _, j, x, hj => by simp at hj
  | (k, y) :: cs, h, j, x, hj => by
    simp only [inBsl, Bool.and_eq_true] at h
    cases j with
    | zero => simp at hj; subst hj; exact h.1
    | succ j => exact inBsl_all h.2 j x (by simpa using hj)
structure ExtW (c c' : Cf) : Prop where
  kept : Kept c.w c.I c'.w c'.I
  loops : LoopsStay c.w c'.w
  shape : ∀ (b : Nat) (cs : Array Value) (e : TypeId) (fz : Nat × Nat), c.w.heap[b]? = some (.cells cs e fz) → ∃ cs' : Array Value, c'.w.heap[b]? = some (.cells cs' e fz) ∧ cs'.size = cs.size
theorem Ext.W {c c' : Cf} {n : Nat} (h : Ext c n c') : ExtW c c' := ⟨h.kept, h.loops, h.shape⟩

theorem RelV.move {c c' : Cf} {n n' : Nat} (hx : ExtW c c') {p : Nat → Bool} (hp : ∀ id, p id = true → id < n' ∧ c'.bk id = c.bk id ∧ c'.ln id = c.ln id) {x : V} {v : Value} (h : RelV c n x v) (hi : Fw.inB p x = true) : RelV c' n' x v := by
  induction h with
  | d x v h => exact .d x v (h.mono hx.kept)
  | ag cs vs hl h1 h ih => exact .ag cs vs hl h1 fun j x hj => ih j x hj (inBs_all hi j x hj)
  | tp cs vs hl h ih => exact .tp cs vs hl fun j x hj => ih j x hj (inBs_all hi j x hj)
  | fn f cs vs hl h ih => exact .fn f cs vs hl fun j x hj => ih j x hj (inBs_all hi j x hj)
  | bm f cs vs hl h ih => exact .bm f cs vs hl fun j x hj => ih j x hj (inBs_all hi j x hj)
  | pt id off hid => rw [← (hp id hi).2.1]; exact .pt id off (hp id hi).1
  | mf id wd cap a hid hcap ha hb ho hs =>
    obtain ⟨cs, e, fz, h1, h2, h5⟩ := hs
    obtain ⟨cs', h3, h4⟩ := hx.shape _ _ _ _ h1
    rw [← (hp id hi).2.2] at hcap ⊢
    exact .mf id wd cap a (hp id hi).1 hcap ha (by rw [hb, (hp id hi).2.1]) ho ⟨cs', e, fz, by rw [(hp id hi).2.1]; exact h3, by omega, by omega⟩
  | ms id wd off len cap a hid hcap ha hb ho hs =>
    obtain ⟨cs, e, fz, h1, h2, h5⟩ := hs
    obtain ⟨cs', h3, h4⟩ := hx.shape _ _ _ _ h1
    exact .ms id wd off len cap a (hp id hi).1 hcap ha (by rw [hb, (hp id hi).2.1]) ho ⟨cs', e, fz, by rw [(hp id hi).2.1]; exact h3, by omega, by omega⟩
  | ep id wd k o hid => rw [← (hp id hi).2.1]; exact .ep id wd k o (hp id hi).1
  | rp cs o a vs e fz hs hI hc ho hb h1 h =>
    exact .rp cs o a vs e fz hs (hx.kept _ hI).1 ((hx.kept _ hI).2.trans hc) ho hb h1 fun k d hd => (h k d hd).mono hx.kept
  | fl wd xs a h => exact .fl wd xs a (h.mono hx.kept)
  | fl0 wd xs ad h => exact .fl0 wd xs ad h
  | mp id hid => rw [← (hp id hi).2.1]; exact .mp id (hp id hi).1
  | yd id sl ps assign body tm hid hl hk h ih =>
    simp only [Fw.inB, Bool.and_eq_true] at hi
    rw [← (hp id hi.1).2.1]
    exact .yd id sl ps assign body tm (hp id hi.1).1 (by rw [(hp id hi.1).2.1]; exact hl.stay hx.loops) hk fun j x hj => ih j x hj (inBsl_all hi.2 j x hj)
  | junk v => exact .junk v

theorem inB_mono {p q : Nat → Bool} (hpq : ∀ id, p id = true → q id = true) : ∀ (x : V), inB p x = true → inB q x = true
  | .d _, _ => rfl
  | .ag cs, h => inBs_mono hpq cs h
  | .tp cs, h => inBs_mono hpq cs h
  | .fn _ cs, h => inBs_mono hpq cs h
  | .bm _ cs, h => inBs_mono hpq cs h
  | .pt _ _, h => hpq _ h
  | .mf _ _, h => hpq _ h
  | .ms _ _ _ _, h => hpq _ h
  | .ep _ _ _ _, h => hpq _ h
  | .rp _ _, _ => rfl
  | .fl _ _, _ => rfl
  | .mp _, h => hpq _ h
  | .yd _ sl _ _ _, h => by
    simp only [inB, Bool.and_eq_true] at h ⊢
    exact ⟨hpq _ h.1, inBsl_mono hpq sl h.2⟩
  | .junk, _ => rfl
where
  inBsl_mono {p q : Nat → Bool} (hpq : ∀ id, p id = true → q id = true) : ∀ (cs : List (Nat × V)), inBsl p cs = true → inBsl q cs = true
  | [], _ => rfl
  | (k, x) :: cs, h => by
    simp only [inBsl, Bool.and_eq_true] at h ⊢
    exact ⟨inB_mono hpq x h.1, inBsl_mono hpq cs h.2⟩
  inBs_mono {p q : Nat → Bool} (hpq : ∀ id, p id = true → q id = true) : ∀ (cs : List V), inBs p cs = true → inBs q cs = true
  | [], _ => rfl
  | x :: cs, h => by
    simp only [inBs, Bool.and_eq_true] at h ⊢
    exact ⟨inB_mono hpq x h.1, inBs_mono hpq cs h.2⟩

def joinK (c : Cf) (H hv : Heap) : Mem := fun b => c.K b ∨ ∃ id, (lk H id).own = true ∧ lk hv id = .dead ∧ b = c.bk id
def joinC (c c' : Cf) (lo hi : Nat) : Cf := ⟨c'.w, c'.I, c.K, fun id => if lo ≤ id ∧ id < hi then c'.bk id else c.bk id, fun id => if lo ≤ id ∧ id < hi then c'.ln id else c.ln id, c'.G⟩


theorem view_heap {c : Cf} {N lo : Nat} {H hv : Heap} (hH : RelH c N H) (hview : ∀ id, lk hv id = .dead ∨ lk hv id = lk H id) (hlo : ∀ id, lk hv id ≠ .dead → id < lo)
    (hin : ∀ id, lk hv id ≠ .dead → ∀ x ∈ (lk hv id).vals, inB (fun id => Nat.blt id lo) x = true) : RelH { c with K := joinK c H hv } lo hv := by
  have hq : ∀ id, lk hv id ≠ .dead → lk H id = lk hv id := fun id h => ((hview id).resolve_left h).symm
  have hown : ∀ id, (lk hv id).own = true → lk H id = lk hv id := fun id h => hq id (by intro h0; rw [h0] at h; cases h)
  have hW : ExtW c { c with K := joinK c H hv } := ⟨fun b hb => ⟨hb, rfl⟩, .refl _, fun b cs e fz h => ⟨cs, h, rfl⟩⟩
  refine ⟨fun id o hb => ?_, hlo, ?_, ?_, ?_, ?_, ?_, hH.low, ?_, ?_, ?_⟩
  · have := hH.ot id o (by rw [hq id (by simp [hb])]; exact hb)
    cases o with
    | fm k l =>
      obtain ⟨es, clock, h1, h2⟩ := this
      exact ⟨es, clock, h1, h2.to fun x v hx hv => hv.move hW (fun id hp => ⟨by simpa [Nat.blt_eq] using hp, rfl, rfl⟩) (hin id (by simp [hb]) x.2 (by rw [hb]; exact List.mem_map.2 ⟨x, hx, rfl⟩))⟩
    | mp K V l => exact this
    | it s p => exact this
    | lp s => exact this
  · intro id cs hb
    obtain ⟨vs, e, h1, h2, h3⟩ := hH.box id cs (by rw [hq id (by simp [hb])]; exact hb)
    refine ⟨vs, e, h1, h2, fun j x hj => ⟨?_, (h3 j x hj).2⟩⟩
    exact (h3 j x hj).1.move hW (fun id hp => ⟨by simpa [Nat.blt_eq] using hp, rfl, rfl⟩) (hin id (by simp [hb]) x (by rw [hb]; exact List.mem_of_getElem? hj))
  · intro id wd xs hb
    exact hH.arr id wd xs (by rw [hq id (by simp [hb])]; exact hb)
  · intro id wd xs hb
    exact hH.fz id wd xs (by rw [hq id (by simp [hb])]; exact hb)
  · intro id ho
    exact hH.own id (by rw [hown id ho]; exact ho)
  · intro id id' ho ho' hb
    exact hH.inj id id' (by rw [hown id ho]; exact ho) (by rw [hown id' ho']; exact ho') hb
  · intro id ho hk
    have ho1 : (lk H id).own = true := by rw [hown id ho]; exact ho
    rcases hk with hk | ⟨id', h1, h2, h3⟩
    · exact hH.ownK id ho1 hk
    · have := hH.inj id id' ho1 h1 h3
      subst this
      rw [h2] at ho; cases ho
  · intro b hI hk
    rcases hk with hk | ⟨id', h1, h2, h3⟩
    · exact hH.disj b hI hk
    · subst h3; exact hH.own id' h1 hI
  · intro b hk
    rcases hk with hk | ⟨id', h1, h2, h3⟩
    · exact hH.lowK b hk
    · subst h3; exact own_lt hH h1

theorem Arr.same {c c' : Cf} {id wd : Nat} {xs : List D} (h : Arr c id wd xs) (hw : c'.w = c.w) (hI : c'.I = c.I) (hb : c'.bk id = c.bk id) (hl : c'.ln id = c.ln id) : Arr c' id wd xs := by
  obtain ⟨h0, vs, e, fz, h1, h2, h3, h4, h5, h6, h7⟩ := h
  exact ⟨hl.trans h0, vs, e, fz, by rw [hb, hw]; exact h1, h2, h3, h4, h5, h6, fun j k x d hj hk => by rw [hw, hI]; exact h7 j k x d hj hk⟩
theorem Arr.frame {c c' : Cf} {id wd : Nat} {xs : List D} (h : Arr c id wd xs) (hk : Kept c.w c.I c'.w c'.I) (hw : c'.w.heap[c.bk id]? = c.w.heap[c.bk id]?) (hb : c'.bk id = c.bk id) (hl : c'.ln id = c.ln id) : Arr c' id wd xs := by
  obtain ⟨h0, vs, e, fz, h1, h2, h3, h4, h5, h6, h7⟩ := h
  exact ⟨hl.trans h0, vs, e, fz, by rw [hb, hw]; exact h1, h2, h3, h4, h5, h6, fun j k x d hj hk' => (h7 j k x d hj hk').mono hk⟩

theorem OtRel.frame {c c' : Cf} {n n' id : Nat} {o : Ot} (h : OtRel c n id o) (hk : Kept c.w c.I c'.w c'.I) (hw : c'.w.heap[c.bk id]? = c.w.heap[c.bk id]?) (hb : c'.bk id = c.bk id) (hv : ∀ x ∈ (Blk.ot o).vals, ∀ v, RelV c n x v → RelV c' n' x v) : OtRel c' n' id o := by
  cases o with
  | mp K V l =>
    obtain ⟨es, clock, h1, h2⟩ := h
    exact ⟨es, clock, by rw [hb, hw]; exact h1, h2.mono hk⟩
  | fm k l =>
    obtain ⟨es, clock, h1, h2⟩ := h
    exact ⟨es, clock, by rw [hb, hw]; exact h1, h2.to fun x v hx hr => hv x.2 (List.mem_map.2 ⟨x, hx, rfl⟩) v hr⟩
  | it s pos => show c'.w.heap[c'.bk id]? = _; rw [hb, hw]; exact h
  | lp st =>
    obtain ⟨r, h1, h2⟩ := h
    exact ⟨r, by rw [hb, hw]; exact h1, h2⟩
theorem join_new {c c' : Cf} {lo hi N : Nat} (hlo : lo ≤ hi) (hiN : hi ≤ N) {K' : Mem} (he : Ext { c with K := K' } lo c') {x : V} {v : Value} (h : RelV c' hi x v) : RelV (joinC c c' lo hi) N x v := by
  have hW : ExtW c' (joinC c c' lo hi) := ⟨fun b hb => ⟨hb, rfl⟩, .refl _, fun b cs e fz h => ⟨cs, h, rfl⟩⟩
  refine h.move hW (fun id hp => ?_) h.inB
  have hid : id < hi := by simpa [Nat.blt_eq] using hp
  refine ⟨by omega, ?_⟩
  simp only [joinC]
  by_cases h1 : lo ≤ id
  · rw [if_pos ⟨h1, hid⟩, if_pos ⟨h1, hid⟩]; exact ⟨rfl, rfl⟩
  · rw [if_neg (fun h => h1 h.1), if_neg (fun h => h1 h.1)]; exact ⟨(he.bk id (by omega)).symm, (he.ln id (by omega)).symm⟩
theorem join_old {c c' : Cf} {lo hi N n : Nat} {K' : Mem} (hn : n ≤ N) (he : Ext { c with K := K' } lo c') {x : V} {v : Value} (h : RelV c n x v) (hi' : inB (fun id => !(Nat.ble lo id && Nat.blt id hi)) x = true) : RelV (joinC c c' lo hi) n x v := by
  have h2 : inB (fun id => !(Nat.ble lo id && Nat.blt id hi) && Nat.blt id n) x = true := by
    have h1 := h.inB
    revert h1 hi'
    clear h
    exact both x
  have hW : ExtW c (joinC c c' lo hi) := ⟨he.kept, he.loops, he.shape⟩
  refine h.move hW (fun id hp => ?_) h2
  simp only [Bool.and_eq_true, Bool.not_eq_true', Bool.and_eq_false_iff, Nat.blt_eq] at hp
  refine ⟨hp.2, ?_⟩
  simp only [joinC]
  have hno : ¬ (lo ≤ id ∧ id < hi) := ?_
  · rw [if_neg hno, if_neg hno]; exact ⟨rfl, rfl⟩
  rintro ⟨h3, h4⟩
  rcases hp.1 with h5 | h5
  · rw [Nat.ble_eq_true_of_le h3] at h5; cases h5
  · have : Nat.blt id hi = true := by rw [Nat.blt_eq]; exact h4
    rw [this] at h5; cases h5
where
  both {p q : Nat → Bool} : ∀ (x : V), inB p x = true → inB q x = true → inB (fun id => p id && q id) x = true
  | .d _, _, _ => rfl
  | .ag cs, h, k => boths cs h k
  | .tp cs, h, k => boths cs h k
  | .fn _ cs, h, k => boths cs h k
  | .bm _ cs, h, k => boths cs h k
  | .pt _ _, h, k => by simp only [inB] at h k ⊢; rw [h, k]; rfl
  | .mf _ _, h, k => by simp only [inB] at h k ⊢; rw [h, k]; rfl
  | .ms _ _ _ _, h, k => by simp only [inB] at h k ⊢; rw [h, k]; rfl
  | .ep _ _ _ _, h, k => by simp only [inB] at h k ⊢; rw [h, k]; rfl
  | .rp _ _, _, _ => rfl
  | .fl _ _, _, _ => rfl
  | .mp _, h, k => by simp only [inB] at h k ⊢; rw [h, k]; rfl
  | .yd _ sl _ _ _, h, k => by
    simp only [inB, Bool.and_eq_true] at h k ⊢
    exact ⟨⟨h.1, k.1⟩, bothsl sl h.2 k.2⟩
  | .junk, _, _ => rfl
  bothsl {p q : Nat → Bool} : ∀ (cs : List (Nat × V)), inBsl p cs = true → inBsl q cs = true → inBsl (fun id => p id && q id) cs = true
  | [], _, _ => rfl
  | (n, x) :: cs, h, k => by
    simp only [inBsl, Bool.and_eq_true] at h k ⊢
    exact ⟨both x h.1 k.1, bothsl cs h.2 k.2⟩
  boths {p q : Nat → Bool} : ∀ (cs : List V), inBs p cs = true → inBs q cs = true → inBs (fun id => p id && q id) cs = true
  | [], _, _ => rfl
  | x :: cs, h, k => by
    simp only [inBs, Bool.and_eq_true] at h k ⊢
    exact ⟨both x h.1 k.1, boths cs h.2 k.2⟩

theorem join_heap {c c' : Cf} {lo hi N : Nat} {H hv hp' H' : Heap} (hH : RelH c N H) (hlo : lo ≤ hi) (hiN : hi ≤ N)
    (he : Ext { c with K := joinK c H hv } lo c') (hH' : RelH c' hi hp')
    (hm : ∀ id, lk H' id = lk hp' id ∨ (lk hp' id = .dead ∧ lk H' id = lk H id ∧ lk hv id = .dead))
    (hr : ∀ id, lk H id ≠ .dead → ¬ (lo ≤ id ∧ id < hi))
    (hin : ∀ id, lk H id ≠ .dead → ∀ x ∈ (lk H id).vals, inB (fun id => !(Nat.ble lo id && Nat.blt id hi)) x = true) : RelH (joinC c c' lo hi) N H' := by
  have hK : c'.K = joinK c H hv := he.K
  have bkA : ∀ id, id < hi → (joinC c c' lo hi).bk id = c'.bk id := by
    intro id hid
    simp only [joinC]
    by_cases h1 : lo ≤ id
    · rw [if_pos ⟨h1, hid⟩]
    · rw [if_neg (fun h => h1 h.1)]; exact (he.bk id (by omega)).symm
  have bkB : ∀ id, lk H id ≠ .dead → (joinC c c' lo hi).bk id = c.bk id := by
    intro id hl
    simp only [joinC]
    rw [if_neg (hr id hl)]
  have lnA : ∀ id, id < hi → (joinC c c' lo hi).ln id = c'.ln id := by
    intro id hid
    simp only [joinC]
    by_cases h1 : lo ≤ id
    · rw [if_pos ⟨h1, hid⟩]
    · rw [if_neg (fun h => h1 h.1)]; exact (he.ln id (by omega)).symm
  have lnB : ∀ id, lk H id ≠ .dead → (joinC c c' lo hi).ln id = c.ln id := by
    intro id hl
    simp only [joinC]
    rw [if_neg (hr id hl)]
  have live : ∀ {b : Blk}, b.own = true → b ≠ .dead := by rintro b h rfl; cases h
  have kOf : ∀ id, (lk H id).own = true → lk hv id = .dead → c'.K (c.bk id) := fun id h1 h2 => by rw [hK]; exact .inr ⟨id, h1, h2, rfl⟩
  have same : ∀ id, (lk H id).own = true → lk hv id = .dead → c'.w.heap[c.bk id]? = c.w.heap[c.bk id]? := fun id h1 h2 => he.keptK _ (.inr ⟨id, h1, h2, rfl⟩)
  refine ⟨fun id o hb => ?_, ?_, ?_, ?_, ?_, ?_, ?_, hH'.low, ?_, ?_, ?_⟩
  · rcases hm id with h | ⟨h1, h2, h3⟩
    · rw [h] at hb
      exact (hH'.ot id o hb).frame (fun b hb => ⟨hb, rfl⟩) rfl (bkA id (hH'.lt id (by simp [hb]))) fun x _ v hv => join_new hlo hiN he hv
    · rw [h2] at hb
      exact (hH.ot id o hb).frame he.kept (same id (by rw [hb]; rfl) h3) (bkB id (by simp [hb])) fun x hx v hv => join_old (Nat.le_refl _) he hv (hin id (by simp [hb]) x (by rw [hb]; exact hx))
  · intro id hl
    rcases hm id with h | ⟨h1, h2, h3⟩
    · rw [h] at hl; have := hH'.lt id hl; omega
    · rw [h2] at hl; exact hH.lt id hl
  · intro id cs hb
    rcases hm id with h | ⟨h1, h2, h3⟩
    · rw [h] at hb
      obtain ⟨vs, e, g1, g2, g3⟩ := hH'.box id cs hb
      refine ⟨vs, e, by rw [bkA id (hH'.lt id (by simp [hb]))]; exact g1, g2, fun j x hj => ⟨join_new hlo hiN he (g3 j x hj).1, (g3 j x hj).2⟩⟩
    · rw [h2] at hb
      obtain ⟨vs, e, g1, g2, g3⟩ := hH.box id cs hb
      refine ⟨vs, e, ?_, g2, fun j x hj => ⟨join_old (Nat.le_refl _) he (g3 j x hj).1 (hin id (by simp [hb]) x (by rw [hb]; exact List.mem_of_getElem? hj)), (g3 j x hj).2⟩⟩
      rw [bkB id (by simp [hb])]
      exact (same id (by rw [hb]; rfl) h3).trans g1
  · intro id wd xs hb
    rcases hm id with h | ⟨h1, h2, h3⟩
    · rw [h] at hb
      exact (hH'.arr id wd xs hb).same rfl rfl (bkA id (hH'.lt id (by simp [hb]))) (lnA id (hH'.lt id (by simp [hb])))
    · rw [h2] at hb
      exact (hH.arr id wd xs hb).frame he.kept (same id (by rw [hb]; rfl) h3) (bkB id (by simp [hb])) (lnB id (by simp [hb]))
  · intro id wd xs hb
    rcases hm id with h | ⟨h1, h2, h3⟩
    · rw [h] at hb
      obtain ⟨g1, g2⟩ := hH'.fz id wd xs hb
      exact ⟨g1.same rfl rfl (bkA id (hH'.lt id (by simp [hb]))) (lnA id (hH'.lt id (by simp [hb]))), by rw [bkA id (hH'.lt id (by simp [hb]))]; exact g2⟩
    · rw [h2] at hb
      obtain ⟨g1, g2⟩ := hH.fz id wd xs hb
      exact ⟨g1.frame he.kept (he.kept _ g2).2 (bkB id (by simp [hb])) (lnB id (by simp [hb])), by rw [bkB id (by simp [hb])]; exact (he.kept _ g2).1⟩
  · intro id ho hI
    rcases hm id with h | ⟨h1, h2, h3⟩
    · rw [h] at ho
      rw [bkA id (hH'.lt id (live ho))] at hI
      exact hH'.own id ho hI
    · rw [h2] at ho
      rw [bkB id (live ho)] at hI
      exact hH'.disj _ hI (kOf id ho h3)
  · intro id id' ho ho' hb
    rcases hm id with h | ⟨h1, h2, h3⟩ <;> rcases hm id' with h' | ⟨h1', h2', h3'⟩
    · rw [h] at ho; rw [h'] at ho'
      rw [bkA id (hH'.lt id (live ho)), bkA id' (hH'.lt id' (live ho'))] at hb
      exact hH'.inj id id' ho ho' hb
    · rw [h] at ho; rw [h2'] at ho'
      rw [bkA id (hH'.lt id (live ho)), bkB id' (live ho')] at hb
      exact absurd (by rw [hb]; exact kOf id' ho' h3') (hH'.ownK id ho)
    · rw [h2] at ho; rw [h'] at ho'
      rw [bkB id (live ho), bkA id' (hH'.lt id' (live ho'))] at hb
      exact absurd (by rw [← hb]; exact kOf id ho h3) (hH'.ownK id' ho')
    · rw [h2] at ho; rw [h2'] at ho'
      rw [bkB id (live ho), bkB id' (live ho')] at hb
      exact hH.inj id id' ho ho' hb
  · intro id ho hk
    rcases hm id with h | ⟨h1, h2, h3⟩
    · rw [h] at ho
      rw [bkA id (hH'.lt id (live ho))] at hk
      exact hH'.ownK id ho (by rw [hK]; exact .inl hk)
    · rw [h2] at ho
      rw [bkB id (live ho)] at hk
      exact hH.ownK id ho hk
  · intro b hI hk
    exact hH'.disj b hI (by rw [hK]; exact .inl hk)
  · intro b hk
    exact Nat.lt_of_lt_of_le (hH.lowK b hk) he.size
end Go.Fw
end
section
set_option linter.unusedVariables false
set_option linter.unusedSimpArgs false
namespace Go.Fw
variable {P : Program}

mutual
theorem frz_suffix : ∀ {v : V} {hp hp' : Heap} {d : D}, frz hp v = some (d, hp') → hp <:+ hp'
  | .d x, hp, hp', d, h => by simp only [frz, Option.some.injEq, Prod.mk.injEq] at h; rw [← h.2]; exact List.suffix_refl _
  | .ag cs, hp, hp', d, h => by
    simp only [frz] at h; split at h
    · rename_i h1; injection h with h; injection h with _ h; subst h; exact frzs_suffix h1
    · cases h
  | .fn f cs, hp, hp', d, h => by
    simp only [frz] at h; split at h
    · rename_i h1; injection h with h; injection h with _ h; subst h; exact frzs_suffix h1
    · cases h
  | .ms id w off len, hp, hp', d, h => by
    simp only [frz] at h; split at h
    · cases hb : (Nat.ble (off + len) _ && _) <;> rw [hb] at h
      · cases h
      · injection h with h; injection h with _ h; subst h; exact List.suffix_cons _ _
    · cases hb : (Nat.ble (off + len) _ && _) <;> rw [hb] at h
      · cases h
      · injection h with h; injection h with _ h; subst h; exact List.suffix_refl _
    · cases h
  | .mf id w, hp, hp', d, h => by
    simp only [frz] at h; split at h
    · replace h := (cond_some h).2
      injection h with h; injection h with _ h; subst h; exact List.suffix_cons _ _
    · replace h := (cond_some h).2
      injection h with h; injection h with _ h; subst h; exact List.suffix_refl _
    · cases h
  | .fl w xs, hp, hp', d, h => by simp only [frz, Option.some.injEq, Prod.mk.injEq] at h; rw [← h.2]; exact List.suffix_refl _
  | .tp _, hp, hp', d, h => by simp [frz] at h
  | .bm _ _, hp, hp', d, h => by simp [frz] at h
  | .pt _ _, hp, hp', d, h => by simp [frz] at h
  | .ep _ _ _ _, hp, hp', d, h => by simp [frz] at h
  | .rp _ _, hp, hp', d, h => by simp [frz] at h
  | .junk, hp, hp', d, h => by simp [frz] at h
theorem frzs_suffix : ∀ {vs : List V} {hp hp' : Heap} {ds : List D}, frzs hp vs = some (ds, hp') → hp <:+ hp'
  | [], hp, hp', d, h => by simp only [frzs, Option.some.injEq, Prod.mk.injEq] at h; rw [← h.2]; exact List.suffix_refl _
  | v :: vs, hp, hp', d, h => by
    simp only [frzs] at h; split at h
    · rename_i h1
      split at h
      · rename_i h2; injection h with h; injection h with _ h; subst h; exact (frz_suffix h1).trans (frzs_suffix h2)
      · cases h
    · cases h
end
theorem frzParts_suffix : ∀ {vs : List (Nat × V)} {hp hp' : Heap} {ds : List (Nat × D)}, frzParts hp vs = some (ds, hp') → hp <:+ hp'
  | [], hp, hp', d, h => by simp only [frzParts, Option.some.injEq, Prod.mk.injEq] at h; rw [← h.2]; exact List.suffix_refl _
  | (i, v) :: vs, hp, hp', d, h => by
    simp only [frzParts] at h; split at h
    · rename_i h1
      split at h
      · rename_i h2; injection h with h; injection h with _ h; subst h; exact (frz_suffix h1).trans (frzParts_suffix h2)
      · cases h
    · cases h
theorem impTop_suffix (n : Nat) (hp : Heap) (d : D) : hp <:+ (impTop n hp d).2.2 := by
  cases d
  case fr w xs =>
    simp only [impTop]
    cases Nat.beq w 0
    · exact List.suffix_cons _ _
    · exact List.suffix_refl _
  all_goals exact List.suffix_refl _
theorem impTops_suffix : ∀ (ds : List D) (n : Nat) (hp : Heap), hp <:+ (impTops n hp ds).2.2
  | [], n, hp => List.suffix_refl _
  | d :: ds, n, hp => (impTop_suffix n hp d).trans (impTops_suffix ds _ _)
theorem impD_suffix (n : Nat) (hp : Heap) (d : D) : hp <:+ (impD n hp d).2.2 := by
  cases d <;> first | exact impTops_suffix _ _ _ | exact impTop_suffix _ _ _
theorem callV_suffix {h : Hs} (hc : ∀ g xs n hp, h.call g xs n hp = none) {g : FuncId} {xs : List V} {n : Nat} {hp : Heap} {r : V × Nat × Heap} (he : callV h g xs n hp = some r) : hp <:+ r.2.2 := by
  unfold callV at he
  split at he
  · rename_i ds hp' h1
    replace h1 : frzs hp xs = some (ds, hp') := by
      cases hi : h.inl g <;> rw [hi] at h1
      · exact h1
      · cases h1
    split at he
    · split at he
      · injection he with he; subst he; exact frzs_suffix h1
      · cases he
    · split at he
      · injection he with he; subst he; exact (frzs_suffix h1).trans (impD_suffix _ _ _)
      · cases he
  · split at he
    · cases he
    · rw [hc] at he; cases he
theorem calleeV_suffix {h : Hs} (hc : ∀ g xs n hp, h.call g xs n hp = none) (hk : ∀ nt c st, h.code nt c st = none) {f : Slots} {o : Operand} {xs : List V} {n : Nat} {hp : Heap} {r : V × Nat × Heap} (he : calleeV h f o xs n hp = some r) : hp <:+ r.2.2 := by
  unfold calleeV at he
  split at he
  · exact callV_suffix hc he
  · exact callV_suffix hc he
  · exact callV_suffix hc he
  · unfold roundV at he
    split at he
    · replace he := (cond_some he).2
      rw [hk] at he
      cases he
    · cases he
  · cases he
theorem storeV_suffix {t : TypeId} {hp hp' : Heap} {a v : V} (he : storeV P t hp a v = some hp') : hp <:+ hp' := by
  unfold storeV at he
  replace he := (cond_some he).2
  split at he
  · split at he
    · replace he := (cond_some he).2
      injection he with he; subst he; exact List.suffix_cons _ _
    · cases he
  · split at he
    · replace he := (cond_some he).2
      split at he
      · split at he
        · injection he with he; subst he; exact List.suffix_cons _ _
        · cases he
      · cases he
    · cases he
  · cases he
theorem pure1_suffix {n : Nat} {hp : Heap} {v : Option V} {r : V × Nat × Heap} (he : pure1 n hp v = some r) : hp <:+ r.2.2 := by
  unfold pure1 at he
  split at he
  · injection he with he; subst he; exact List.suffix_refl _
  · cases he
theorem buildSliceV_suffix {t : TypeId} {len n : Nat} {hp : Heap} {ps : List (Nat × V)} {r : V × Nat × Heap} (he : buildSliceV P t len n hp ps = some r) : hp <:+ r.2.2 := by
  unfold buildSliceV at he
  split at he
  · split at he
    · split at he
      · rename_i h1
        replace he := (cond_some he).2
        split at he
        · injection he with he; subst he; exact (frzParts_suffix h1).trans (List.suffix_cons _ _)
        · cases he
      · cases he
    · cases he
  · cases he
theorem makeSliceV_suffix {t : TypeId} {l c : V} {n : Nat} {hp : Heap} {r : V × Nat × Heap} (he : makeSliceV P t l c n hp = some r) : hp <:+ r.2.2 := by
  unfold makeSliceV at he
  split at he
  · split at he
    · replace he := (cond_some he).2
      injection he with he; subst he; exact List.suffix_cons _ _
    · cases he
  · cases he
theorem clearV_suffix {t : TypeId} {x : V} {n : Nat} {hp : Heap} {r : V × Nat × Heap} (he : clearV P t x n hp = some r) : hp <:+ r.2.2 := by
  unfold clearV at he
  split at he
  · split at he
    · split at he
      · split at he
        · obtain ⟨_, he⟩ := cond_some he
          injection he with he; subst he; exact List.suffix_cons _ _
        · cases he
      · injection he with he; subst he; exact List.suffix_refl _
      · cases he
    · cases he
  · cases he
theorem appendV_suffix {t u : TypeId} {s x : V} {n : Nat} {hp : Heap} {r : V × Nat × Heap} (he : appendV P t u s x n hp = some r) : hp <:+ r.2.2 := by
  unfold appendV at he
  split at he
  · split at he
    · replace he := (cond_some he).2
      split at he
      · rename_i w ys _
        cases hn : ys.nil <;> rw [hn] at he <;> simp only [cond_true, cond_false] at he
        rotate_left
        · split at he <;> first | (injection he with he; subst he; exact List.suffix_refl _) | (cases he; done)
        · replace he := (cond_some he).2
          split at he
          · replace he := (cond_some he).2
            injection he with he; subst he; exact List.suffix_cons _ _
          · replace he := (cond_some he).2
            injection he with he; subst he; exact List.suffix_cons _ _
          · split at he
            · replace he := (cond_some he).2
              injection he with he; subst he; exact ⟨[_, _], rfl⟩
            · cases he
          · split at he
            · replace he := (cond_some he).2
              injection he with he; subst he; exact ⟨[_, _], rfl⟩
            · cases he
          · cases he
      · cases he
    · cases he
  · cases he
theorem evOp_suffix {h : Hs} (hc : ∀ g xs n hp, h.call g xs n hp = none) (hk : ∀ nt c st, h.code nt c st = none) {o : Oper} {f : Slots} {n : Nat} {hp : Heap} {r : V × Nat × Heap} (he : evOp P h o f n hp = some r) : hp <:+ r.2.2 := by
  have hv : ∀ {v : V} {r : V × Nat × Heap}, some (v, n, hp) = some r → hp <:+ r.2.2 := by
    intro v r h; injection h with h; subst h; exact List.suffix_refl _
  unfold evOp at he
  split at he
  · exact hv he
  · exact hv he
  · split at he
    · exact hv he
    · cases he
  · exact pure1_suffix he
  · exact pure1_suffix he
  · split at he
    · revert he
      generalize strT P _ = b
      intro he
      cases b
      · simp only [cond_false] at he
        split at he
        · replace he := (cond_some he).2
          injection he with he; subst he; exact List.suffix_cons _ _
        · cases he
      · exact pure1_suffix he
    · exact pure1_suffix he
    · split at he
      · replace he := (cond_some he).2
        split at he
        · exact pure1_suffix (cond_some he).2
        · cases he
      · cases he
  · exact pure1_suffix he
  · exact pure1_suffix he
  · exact pure1_suffix he
  · exact pure1_suffix he
  · exact pure1_suffix he
  · split at he <;> first | exact hv he | (cases he; done)
  · exact pure1_suffix he
  · rename_i first captured _
    cases hb : first.isEmpty with
    | true => rw [hb] at he; exact hv he
    | false => rw [hb] at he; exact hv (cond_some he).2
  · split at he
    · injection he with he; subst he; exact List.suffix_cons _ _
    · split at he
      · injection he with he; subst he; exact List.suffix_cons _ _
      · cases he
  · replace he := (cond_some he).2
    injection he with he; subst he; exact List.suffix_cons _ _
  · exact pure1_suffix he
  · split at he
    · rename_i hs; injection he with he; subst he; exact storeV_suffix hs
    · cases he
  · exact pure1_suffix he
  · exact buildSliceV_suffix he
  · exact makeSliceV_suffix he
  · unfold makeMapV at he
    split at he
    · split at he
      · replace he := (cond_some he).2
        injection he with he; subst he; exact List.suffix_cons _ _
      · replace he := (cond_some he).2
        injection he with he; subst he; exact List.suffix_cons _ _
      · cases he
    · cases he
  · exact pure1_suffix he
  · split at he
    · rename_i hs
      injection he with he; subst he
      unfold updateV at hs
      split at hs
      · replace hs := (cond_some hs).2
        split at hs
        · replace hs := (cond_some hs).2
          injection hs with hs; subst hs; exact List.suffix_cons _ _
        · cases hs
      unfold updM at hs
      split at hs
      · split at hs
        · replace hs := (cond_some hs).2
          split at hs
          · replace hs := (cond_some hs).2
            injection hs with hs; subst hs; exact List.suffix_cons _ _
          · cases hs
        · cases hs
      · cases hs
    · cases he
  · split at he
    · rename_i hs
      injection he with he; subst he
      unfold updateV at hs
      split at hs
      · replace hs := (cond_some hs).2
        split at hs
        · replace hs := (cond_some hs).2
          injection hs with hs; subst hs; exact List.suffix_cons _ _
        · cases hs
      unfold updM at hs
      split at hs
      · split at hs
        · replace hs := (cond_some hs).2
          split at hs
          · replace hs := (cond_some hs).2
            injection hs with hs; subst hs; exact List.suffix_cons _ _
          · cases hs
        · cases hs
      · cases hs
    · cases he
  · unfold rangeV at he
    split at he
    · replace he := (cond_some he).2
      injection he with he; subst he; exact List.suffix_cons _ _
    · cases he
  · unfold nextV at he
    split at he
    · split at he
      · rename_i s pos _
        cases hb : Nat.blt pos s.size <;> rw [hb] at he
        · injection he with he; subst he; exact List.suffix_refl _
        · injection he with he; subst he; exact List.suffix_cons _ _
      · cases he
    · cases he
  · split at he
    · split at he
      · exact pure1_suffix he
      · cases he
    · split at he
      · exact appendV_suffix he
      · cases he
    · split at he
      · exact clearV_suffix he
      · cases he
    · split at he
      · exact pure1_suffix he
      · cases he
    · exact calleeV_suffix hc hk he
    · cases he
  · cases he
theorem evOper_suffix {h : Hs} (hc : ∀ g xs n hp, h.call g xs n hp = none) (hk : ∀ nt c st, h.code nt c st = none) {all : List Oper} {o : Oper} {st st' : St} (he : evOper P h all o st = some st') : st.h <:+ st'.h := by
  have hp : ∀ (st : St) (v : V), (st.put o.dst v).h = st.h := by intro st v; cases o.dst <;> rfl
  have h1 : ∀ {st'}, step1 P h o st = some st' → st.h <:+ st'.h := by
    intro st' he
    unfold step1 at he
    split at he
    · rename_i h1
      injection he with he; subst he; rw [hp]; exact evOp_suffix hc hk h1
    · cases he
  unfold evOper at he
  split at he
  · exact h1 he
  · split at he
    · split at he
      · rename_i x _
        cases hb : (x == _) <;> rw [hb] at he
        · injection he with he; subst he; rw [hp]; exact List.suffix_refl _
        · exact h1 he
      · injection he with he; subst he; rw [hp]; exact List.suffix_refl _
      · cases he
    · cases he
end Go.Fw
end
section
set_option linter.unusedVariables false
set_option linter.unusedSimpArgs false
namespace Go.Fw

theorem get_append : ∀ (a b : Slots) (t : Nat), get (a ++ b) t = if t ∈ a.map Prod.fst then get a t else get b t
  | [], b, t => by simp [get]
  | (j, v) :: a, b, t => by
    rw [List.cons_append, get_cons, get_cons, get_append a b t]
    by_cases h : j = t
    · simp [h]
    · simp only [h, if_false, List.map_cons, List.mem_cons]
      have : ¬ t = j := fun h' => h h'.symm
      simp only [this, false_or]
theorem lk_append : ∀ (a b : Heap) (t : Nat), lk (a ++ b) t = if t ∈ a.map Prod.fst then lk a t else lk b t
  | [], b, t => by simp [lk]
  | (j, v) :: a, b, t => by
    rw [List.cons_append, lk_cons, lk_cons, lk_append a b t]
    by_cases h : j = t
    · simp [h]
    · simp only [h, if_false, List.map_cons, List.mem_cons]
      have : ¬ t = j := fun h' => h h'.symm
      simp only [this, false_or]
theorem lk_mem : ∀ {a : Heap} {t : Nat}, t ∈ a.map Prod.fst → (t, lk a t) ∈ a
  | (j, v) :: a, t, h => by
    rw [lk_cons]
    by_cases hj : j = t
    · subst hj; simp
    · rw [if_neg hj]
      simp only [List.map_cons, List.mem_cons] at h
      exact List.mem_cons_of_mem _ (lk_mem (h.resolve_left fun h' => hj h'.symm))
theorem keysBif {α : Type} (b : Bool) (l : List (Nat × α)) (t : Nat) : t ∈ (bif b then l else []).map Prod.fst ↔ b = true ∧ t ∈ l.map Prod.fst := by
  cases b <;> simp

theorem selS_keys {S : Nat → Bool} {t : Nat} : ∀ {R : List Rc} {k : Nat}, t ∈ (selS S k R).map Prod.fst ↔ ∃ j r, R[j]? = some r ∧ S (k + j) = true ∧ t ∈ r.s.map Prod.fst
  | [], k => by simp [selS]
  | r :: rs, k => by
    rw [selS, List.map_append, List.mem_append, selS_keys, keysBif]
    constructor
    · rintro (⟨j, q, h1, h2, h3⟩ | ⟨h1, h2⟩)
      · exact ⟨j + 1, q, by simpa using h1, by rw [← h2]; congr 1; omega, h3⟩
      · exact ⟨0, r, rfl, h1, h2⟩
    · rintro ⟨j, q, h1, h2, h3⟩
      cases j with
      | zero => simp only [List.getElem?_cons_zero, Option.some.injEq] at h1; subst h1; exact .inr ⟨h2, h3⟩
      | succ j => exact .inl ⟨j, q, by simpa using h1, by rw [← h2]; congr 1; omega, h3⟩
theorem selH_keys {S : Nat → Bool} {t : Nat} : ∀ {R : List Rc} {k : Nat}, t ∈ (selH S k R).map Prod.fst ↔ ∃ j r, R[j]? = some r ∧ S (k + j) = true ∧ t ∈ r.p.map Prod.fst
  | [], k => by simp [selH]
  | r :: rs, k => by
    rw [selH, List.map_append, List.mem_append, selH_keys, keysBif]
    constructor
    · rintro (⟨j, q, h1, h2, h3⟩ | ⟨h1, h2⟩)
      · exact ⟨j + 1, q, by simpa using h1, by rw [← h2]; congr 1; omega, h3⟩
      · exact ⟨0, r, rfl, h1, h2⟩
    · rintro ⟨j, q, h1, h2, h3⟩
      cases j with
      | zero => simp only [List.getElem?_cons_zero, Option.some.injEq] at h1; subst h1; exact .inr ⟨h2, h3⟩
      | succ j => exact .inl ⟨j, q, by simpa using h1, by rw [← h2]; congr 1; omega, h3⟩
theorem selH_last {S : Nat → Bool} {t : Nat} : ∀ {R : List Rc} {k j : Nat} {r : Rc}, R[j]? = some r → S (k + j) = true → t ∈ r.p.map Prod.fst →
    (∀ (i : Nat) (q : Rc), j < i → R[i]? = some q → S (k + i) = true → t ∉ q.p.map Prod.fst) → lk (selH S k R) t = lk r.p t
  | [], k, j, r, h, _, _, _ => by simp at h
  | q :: rs, k, j, r, h, hS, hk, hl => by
    rw [selH, lk_append]
    cases j with
    | zero =>
      simp only [List.getElem?_cons_zero, Option.some.injEq] at h
      subst h
      rw [if_neg]
      · have : S k = true := hS
        rw [this]; rfl
      · rw [selH_keys]
        rintro ⟨i, q', h1, h2, h3⟩
        exact hl (i + 1) q' (by omega) (by simpa using h1) (by rw [← h2]; congr 1; omega) h3
    | succ j =>
      have h' : rs[j]? = some r := by simpa using h
      have hS' : S (k + 1 + j) = true := by rw [← hS]; congr 1; omega
      rw [if_pos (selH_keys.2 ⟨j, r, h', hS', hk⟩)]
      exact selH_last h' hS' hk fun i q' h1 h2 h3 => hl (i + 1) q' (by omega) (by simpa using h2) (by rw [← h3]; congr 1; omega)
theorem selS_last {S : Nat → Bool} {t : Nat} : ∀ {R : List Rc} {k j : Nat} {r : Rc}, R[j]? = some r → S (k + j) = true → t ∈ r.s.map Prod.fst →
    (∀ (i : Nat) (q : Rc), j < i → R[i]? = some q → S (k + i) = true → t ∉ q.s.map Prod.fst) → get (selS S k R) t = get r.s t
  | [], k, j, r, h, _, _, _ => by simp at h
  | q :: rs, k, j, r, h, hS, hk, hl => by
    rw [selS, get_append]
    cases j with
    | zero =>
      simp only [List.getElem?_cons_zero, Option.some.injEq] at h
      subst h
      rw [if_neg]
      · have : S k = true := hS
        rw [this]; rfl
      · rw [selS_keys]
        rintro ⟨i, q', h1, h2, h3⟩
        exact hl (i + 1) q' (by omega) (by simpa using h1) (by rw [← h2]; congr 1; omega) h3
    | succ j =>
      have h' : rs[j]? = some r := by simpa using h
      have hS' : S (k + 1 + j) = true := by rw [← hS]; congr 1; omega
      rw [if_pos (selS_keys.2 ⟨j, r, h', hS', hk⟩)]
      exact selS_last h' hS' hk fun i q' h1 h2 h3 => hl (i + 1) q' (by omega) (by simpa using h2) (by rw [← h3]; congr 1; omega)
theorem selH_some {S : Nat → Bool} {t : Nat} : ∀ {R : List Rc} {k : Nat}, t ∈ (selH S k R).map Prod.fst → ∃ j r, R[j]? = some r ∧ S (k + j) = true ∧ t ∈ r.p.map Prod.fst ∧ lk (selH S k R) t = lk r.p t
  | [], k, h => by simp [selH] at h
  | r :: rs, k, h => by
    by_cases hi : t ∈ (selH S (k + 1) rs).map Prod.fst
    · obtain ⟨j, q, h1, h2, h3, h4⟩ := selH_some hi
      exact ⟨j + 1, q, by simpa using h1, by rw [← h2]; congr 1; omega, h3, by rw [selH, lk_append, if_pos hi]; exact h4⟩
    · rw [selH, List.map_append, List.mem_append, keysBif] at h
      obtain ⟨h1, h2⟩ := h.resolve_left hi
      exact ⟨0, r, rfl, h1, h2, by rw [selH, lk_append, if_neg hi, h1]; rfl⟩
theorem selH_congr {S T : Nat → Bool} {t : Nat} : ∀ {R : List Rc} {k : Nat} {h h' : Heap}, (∀ j r, R[j]? = some r → S (k + j) ≠ T (k + j) → t ∉ r.p.map Prod.fst) → lk h t = lk h' t → lk (selH S k R ++ h) t = lk (selH T k R ++ h') t
  | [], k, h, h', _, hh => hh
  | r :: rs, k, h, h', hST, hh => by
    rw [selH, selH, List.append_assoc, List.append_assoc]
    refine selH_congr (fun j q h1 h2 => hST (j + 1) q (by simpa using h1) (by rwa [show k + (j + 1) = k + 1 + j by omega])) ?_
    rw [lk_append, lk_append]
    by_cases hs : S k = T k
    · rw [hs, hh]
    · have hn := hST 0 r rfl hs
      rw [if_neg (fun h => hn ((keysBif _ _ _).1 h).2), if_neg (fun h => hn ((keysBif _ _ _).1 h).2)]
      exact hh
theorem selS_take {S : Nat → Bool} : ∀ {R : List Rc} {k i : Nat}, (∀ j, i ≤ j → S (k + j) = false) → selS S k (R.take i) = selS S k R
  | [], k, i, h => by simp
  | r :: rs, k, i, h => by
    cases i with
    | zero =>
      have h0 : S k = false := h 0 (by omega)
      have := selS_take (R := rs) (k := k + 1) (i := 0) (S := S) fun j _ => by rw [Nat.add_assoc]; exact h (1 + j) (by omega)
      rw [List.take_zero, selS] at this
      rw [List.take_zero, selS, selS, h0, ← this]; rfl
    | succ i =>
      rw [List.take_succ_cons, selS, selS, selS_take fun j hj => by rw [Nat.add_assoc]; exact h (1 + j) (by omega)]
theorem selH_take {S : Nat → Bool} : ∀ {R : List Rc} {k i : Nat}, (∀ j, i ≤ j → S (k + j) = false) → selH S k (R.take i) = selH S k R
  | [], k, i, h => by simp
  | r :: rs, k, i, h => by
    cases i with
    | zero =>
      have h0 : S k = false := h 0 (by omega)
      have := selH_take (R := rs) (k := k + 1) (i := 0) (S := S) fun j _ => by rw [Nat.add_assoc]; exact h (1 + j) (by omega)
      rw [List.take_zero, selH] at this
      rw [List.take_zero, selH, selH, h0, ← this]; rfl
    | succ i =>
      rw [List.take_succ_cons, selH, selH, selH_take fun j hj => by rw [Nat.add_assoc]; exact h (1 + j) (by omega)]
theorem offH_keys {S : Nat → Bool} {t : Nat} : ∀ {R : List Rc} {k : Nat}, t ∈ (offH S k R).map Prod.fst ↔ ∃ j r, R[j]? = some r ∧ S (k + j) = false ∧ t ∈ r.p.map Prod.fst
  | [], k => by simp [offH]
  | r :: rs, k => by
    rw [offH, List.map_append, List.mem_append, offH_keys]
    have : t ∈ (bif S k then [] else r.p.map fun x => (x.1, Blk.dead)).map Prod.fst ↔ S k = false ∧ t ∈ r.p.map Prod.fst := by
      cases S k <;> simp
    rw [this]
    constructor
    · rintro (⟨h1, h2⟩ | ⟨j, q, h1, h2, h3⟩)
      · exact ⟨0, r, rfl, h1, h2⟩
      · exact ⟨j + 1, q, by simpa using h1, by rw [← h2]; congr 1; omega, h3⟩
    · rintro ⟨j, q, h1, h2, h3⟩
      cases j with
      | zero => simp only [List.getElem?_cons_zero, Option.some.injEq] at h1; subst h1; exact .inl ⟨h2, h3⟩
      | succ j => exact .inr ⟨j, q, by simpa using h1, by rw [← h2]; congr 1; omega, h3⟩
theorem offH_dead {S : Nat → Bool} {t : Nat} : ∀ {R : List Rc} {k : Nat}, lk (offH S k R) t = .dead
  | [], k => rfl
  | r :: rs, k => by
    rw [offH, lk_append]
    split
    · cases S k
      · exact dead r.p
      · rfl
    · exact offH_dead
where dead {t : Nat} : ∀ (p : Heap), lk (p.map fun x => (x.1, Blk.dead)) t = .dead
  | [] => rfl
  | (i, b) :: p => by
    rw [List.map_cons, lk_cons]
    split
    · rfl
    · exact dead p
theorem okA_spec {S : Nat → Bool} {id : Nat} : ∀ {R : List Rc} {k : Nat}, okA S id k R = true → ∃ j r, R[j]? = some r ∧ S (k + j) = true ∧ r.lo ≤ id ∧ id < r.hi
  | [], k, h => by simp [okA] at h
  | r :: rs, k, h => by
    simp only [okA, Bool.or_eq_true, Bool.and_eq_true] at h
    rcases h with ⟨⟨h1, h2⟩, h3⟩ | h
    · exact ⟨0, r, rfl, h1, Nat.le_of_ble_eq_true h2, by simpa [Nat.blt_eq] using h3⟩
    · obtain ⟨j, q, h1, h2, h3⟩ := okA_spec h
      exact ⟨j + 1, q, by simpa using h1, by rw [← h2]; congr 1; omega, h3⟩
theorem hasN_mem : ∀ {l : List Nat} {id : Nat}, hasN l id = true ↔ id ∈ l
  | [], id => by simp [hasN]
  | a :: l, id => by
    simp only [hasN, Bool.or_eq_true, List.mem_cons, hasN_mem]
    constructor
    · rintro (h | h)
      · exact .inl (by simpa using (beq_iff_eq.1 h).symm)
      · exact .inr h
    · rintro (h | h)
      · exact .inl (by simp [h])
      · exact .inr h
theorem apart1_spec {q : Rc} {p : Heap} (h : apart1 q p = true) {id : Nat} (hid : id ∈ p.map Prod.fst) : (q.see = none → q.hi ≤ id ∧ id ∉ q.p.map Prod.fst) ∧ ∀ l, q.see = some l → id ∉ l := by
  obtain ⟨x, hx, rfl⟩ := List.mem_map.1 hid
  unfold apart1 at h
  split at h
  · rename_i hs
    rw [List.all_eq_true] at h
    have h1 := h x hx
    rw [Bool.and_eq_true, List.all_eq_true] at h1
    refine ⟨fun _ => ⟨Nat.le_of_ble_eq_true h1.1, fun hm => ?_⟩, fun l hl => by rw [hs] at hl; cases hl⟩
    obtain ⟨y, hy, hxy⟩ := List.mem_map.1 hm
    have h4 := h1.2 y hy
    rw [hxy] at h4
    simp at h4
  · rename_i l hs
    rw [List.all_eq_true] at h
    have h1 := h x hx
    refine ⟨fun hn => absurd (hs.symm.trans hn) (by simp), fun l' hl hm => ?_⟩
    rw [hs] at hl
    injection hl with hl
    subst hl
    rw [hasN_mem.2 hm] at h1
    cases h1
theorem apartA_spec {S : Nat → Bool} {p : Heap} : ∀ {R : List Rc} {k : Nat}, apartA S p k R = true → ∀ j r, R[j]? = some r → S (k + j) = false → apart1 r p = true
  | [], k, h, j, r, hj => by simp at hj
  | q :: rs, k, h, j, r, hj => by
    simp only [apartA, Bool.and_eq_true] at h
    intro hS
    cases j with
    | zero =>
      simp only [List.getElem?_cons_zero, Option.some.injEq] at hj
      subst hj
      have h1 := h.1
      simp only [Nat.add_zero] at hS
      rw [hS, Bool.false_or] at h1
      exact h1
    | succ j => exact apartA_spec h.2 j r (by simpa using hj) (by rw [← hS]; congr 1; omega)
theorem ancB_spec {rs : List Rc} : ∀ {es : List Edge} {A : Nat}, ancB rs es = some A →
    (∀ e ∈ es, Region.binds .any e = true → ∃ r, rs[e.on]? = some r ∧ A.testBit e.on = true ∧ ∀ k, r.A.testBit k = true → A.testBit k = true) ∧
    (∀ k, A.testBit k = true → ∃ e ∈ es, Region.binds .any e = true ∧ ∃ r, rs[e.on]? = some r ∧ (k = e.on ∨ r.A.testBit k = true))
  | [], A, h => by
    simp only [ancB, Option.some.injEq] at h
    subst h
    simp
  | e :: es, A, h => by
    simp only [ancB] at h
    split at h
    · rename_i a ha
      obtain ⟨i1, i2⟩ := ancB_spec ha
      cases hb : Region.binds .any e <;> rw [hb] at h
      · simp only [cond_false, Option.some.injEq] at h
        subst h
        refine ⟨fun e' he' hb' => ?_, fun k hk => ?_⟩
        · rcases List.mem_cons.1 he' with rfl | he'
          · rw [hb] at hb'; cases hb'
          · exact i1 e' he' hb'
        · obtain ⟨e', he', h2⟩ := i2 k hk
          exact ⟨e', List.mem_cons_of_mem _ he', h2⟩
      · simp only [cond_true] at h
        split at h
        · rename_i r hr
          injection h with h
          subst h
          have bit : ∀ k, (a ||| (r.A ||| 2 ^ e.on)).testBit k = true ↔ a.testBit k = true ∨ r.A.testBit k = true ∨ k = e.on := by
            intro k
            rw [Nat.testBit_or, Nat.testBit_or, Nat.testBit_two_pow]
            simp only [Bool.or_eq_true, decide_eq_true_eq]
            constructor
            · rintro (h | h | h)
              · exact .inl h
              · exact .inr (.inl h)
              · exact .inr (.inr h.symm)
            · rintro (h | h | h)
              · exact .inl h
              · exact .inr (.inl h)
              · exact .inr (.inr h.symm)
          refine ⟨fun e' he' hb' => ?_, fun k hk => ?_⟩
          · rcases List.mem_cons.1 he' with rfl | he'
            · exact ⟨r, hr, (bit _).2 (.inr (.inr rfl)), fun k hk => (bit k).2 (.inr (.inl hk))⟩
            · obtain ⟨q, h1, h2, h3⟩ := i1 e' he' hb'
              exact ⟨q, h1, (bit _).2 (.inl h2), fun k hk => (bit k).2 (.inl (h3 k hk))⟩
          · rcases (bit k).1 hk with h | h | h
            · obtain ⟨e', he', h2⟩ := i2 k h
              exact ⟨e', List.mem_cons_of_mem _ he', h2⟩
            · exact ⟨e, List.mem_cons_self, hb, r, hr, .inr h⟩
            · exact ⟨e, List.mem_cons_self, hb, r, hr, .inl h⟩
        · cases h
    · cases h
end Go.Fw
end
section
set_option linter.unusedVariables false
set_option linter.unusedSimpArgs false
namespace Go.Fw
variable {P : Program}

def noCall (h : Hs) : Hs := { h with call := fun _ _ _ _ => none, code := fun _ _ _ => none }
theorem CallsOK.noCall {h : Hs} (hok : CallsOK P h) : CallsOK P (noCall h) := ⟨hok.ext, hok.pcall, fun g xs n hp r h => (by cases h), fun nt code st r _ h => (by cases h)⟩

structure RcOK (P : Program) (h : Hs) (all : List Oper) (f0 : Slots) (n0 : Nat) (h0 : Heap) (rs : List Rc) (o : Oper) (r : Rc) : Prop where
  anc : ancB rs o.after.toList = some r.A
  st : ∃ st', evOper P (noCall h) all o ⟨selS (r.A.testBit ·) 0 rs ++ f0, r.lo, viewH (r.A.testBit ·) rs h0 r.see⟩ = some st' ∧ r = rcOf r.A o r.lo r.see (viewH (r.A.testBit ·) rs h0 r.see) st'
  ok : okRc (r.A.testBit ·) n0 rs r = true

theorem drawStep_spec {h : Hs} {all : List Oper} {f0 : Slots} {n0 : Nat} {h0 : Heap} {rs : List Rc} {n : Nat} {o : Oper} {r : Rc} (he : drawStep P h all f0 n0 h0 rs n o = some r) :
    RcOK P h all f0 n0 h0 rs o r := by
  unfold drawStep at he
  split at he
  · rename_i A hA
    simp only at he
    split at he
    · rename_i st' hst
      obtain ⟨h1, h2⟩ := cond_some he
      injection h2 with h2
      have e1 : r.A = A := by rw [← h2]; rfl
      have e2 : r.lo = n := by rw [← h2]; rfl
      have e3 : r.see = seeOf h.G (selS (A.testBit ·) 0 rs ++ f0) o := by rw [← h2]; rfl
      refine ⟨by rw [e1]; exact hA, ⟨st', by rw [e1, e2, e3]; exact hst, by rw [e1, e2, e3]; exact h2.symm⟩, by rw [e1, ← h2]; exact h1⟩
    · cases he
  · cases he

theorem drawGo_spec {h : Hs} {all : List Oper} {f0 : Nat → Slots} {n0 : Nat} {h0 : Heap} : ∀ (os : List Oper) (rs : List Rc) (n : Nat) (R : List Rc) (N : Nat), drawGo P h all f0 n0 h0 os rs n = some (R, N) →
    n ≤ N ∧ R.length = rs.length + os.length ∧ (∀ j, j < rs.length → R[j]? = rs[j]?) ∧ ∀ j o, os[j]? = some o → ∃ r, R[rs.length + j]? = some r ∧ RcOK P h all (f0 (rs.length + j)) n0 h0 (R.take (rs.length + j)) o r ∧ r.hi ≤ N
  | [], rs, n, R, N, he => by
    simp only [drawGo, Option.some.injEq, Prod.mk.injEq] at he
    obtain ⟨rfl, rfl⟩ := he
    exact ⟨Nat.le_refl _, by simp, fun _ _ => rfl, by simp⟩
  | o :: os, rs, n, R, N, he => by
    simp only [drawGo] at he
    split at he
    · rename_i r hr
      have hok := drawStep_spec hr
      have hlo : n = r.lo := by
        unfold drawStep at hr
        split at hr
        · simp only at hr
          split at hr
          · have := (cond_some hr).2
            injection this with this
            rw [← this]; rfl
          · cases hr
        · cases hr
      obtain ⟨i0, i1, i2, i3⟩ := drawGo_spec os (rs ++ [r]) r.hi R N he
      have hlen : (rs ++ [r]).length = rs.length + 1 := by simp
      have hr0 : R[rs.length]? = some r := by rw [i2 rs.length (by simp)]; simp
      have hpre : R.take rs.length = rs := by
        apply List.ext_getElem?
        intro j
        by_cases hj : j < rs.length
        · rw [List.getElem?_take_of_lt hj, i2 j (by simp; omega), List.getElem?_append_left hj]
        · rw [List.getElem?_take_eq_none (by omega), List.getElem?_eq_none (by omega)]
      have hk := hok.ok
      simp only [okRc, Bool.and_eq_true] at hk
      have hle : r.lo ≤ r.hi := Nat.le_of_ble_eq_true hk.1.1.1.1.1.2
      refine ⟨by omega, by rw [i1, hlen]; simp; omega, fun j hj => by rw [i2 j (by simp; omega), List.getElem?_append_left hj], fun j o' hj => ?_⟩
      cases j with
      | zero =>
        simp only [List.getElem?_cons_zero, Option.some.injEq] at hj
        subst hj
        exact ⟨r, hr0, by rw [Nat.add_zero, hpre]; exact hok, i0⟩
      | succ j =>
        obtain ⟨q, h1, h2, h3⟩ := i3 j o' (by simpa using hj)
        rw [hlen] at h1 h2
        exact ⟨q, by rw [← h1]; congr 1; omega, by rw [show rs.length + (j + 1) = rs.length + 1 + j by omega]; exact h2, h3⟩
    · cases he

structure Recs (P : Program) (h : Hs) (all : Array Oper) (f0 : Nat → Slots) (n0 : Nat) (h0 : Heap) (R : List Rc) (N : Nat) : Prop where
  len : R.length = all.size
  n0N : n0 ≤ N
  at_ : ∀ i o, all[i]? = some o → ∃ r, R[i]? = some r ∧ RcOK P h all.toList (f0 i) n0 h0 (R.take i) o r ∧ r.hi ≤ N
  hlt : ∀ id, lk h0 id ≠ .dead → id < n0
  hbox : ∀ id, ∀ x ∈ (lk h0 id).vals, inB (fun id => Nat.blt id n0) x = true

section
variable {h : Hs} {all : Array Oper} {f0 : Nat → Slots} {n0 : Nat} {h0 : Heap} {R : List Rc} {N : Nat} (hR : Recs P h all f0 n0 h0 R N)
include hR

theorem Recs.of {i : Nat} {r : Rc} (hr : R[i]? = some r) : ∃ o, all[i]? = some o ∧ RcOK P h all.toList (f0 i) n0 h0 (R.take i) o r ∧ r.hi ≤ N := by
  have hi : i < all.size := by rw [← hR.len]; exact (List.getElem?_eq_some_iff.1 hr).1
  obtain ⟨q, h1, h2, h3⟩ := hR.at_ i all[i] (Array.getElem?_eq_getElem hi)
  rw [hr] at h1
  injection h1 with h1
  subst h1
  exact ⟨_, Array.getElem?_eq_getElem hi, h2, h3⟩

theorem Recs.bit : ∀ (i : Nat) (r : Rc), R[i]? = some r → ∀ k, r.A.testBit k = true → k < i ∧ ∃ q, R[k]? = some q ∧ ∀ l, q.A.testBit l = true → r.A.testBit l = true := by
  intro i
  induction i using Nat.strongRecOn with
  | _ i ih =>
    intro r hr k hk
    obtain ⟨o, ho, hok, _⟩ := hR.of hr
    obtain ⟨a1, a2⟩ := ancB_spec hok.anc
    obtain ⟨e, he, hb, q, hq, hkq⟩ := a2 k hk
    have hei : e.on < i := by
      have := (List.getElem?_eq_some_iff.1 hq).1
      rw [List.length_take] at this; omega
    rw [List.getElem?_take_of_lt hei] at hq
    obtain ⟨q', hq', _, hsub⟩ := a1 e he hb
    rw [List.getElem?_take_of_lt hei, hq] at hq'
    injection hq' with hq'
    subst hq'
    rcases hkq with rfl | hkq
    · exact ⟨hei, q, hq, hsub⟩
    · obtain ⟨h1, p, h2, h3⟩ := ih e.on hei q hq k hkq
      exact ⟨by omega, p, h2, fun l hl => hsub l (h3 l hl)⟩

theorem Recs.facts {i : Nat} {r : Rc} (hr : R[i]? = some r) : n0 ≤ r.lo ∧ r.lo ≤ r.hi ∧ r.hi ≤ N ∧ (∀ j q, j < i → R[j]? = some q → q.hi ≤ r.lo ∧ ∀ t, t ∈ q.s.map Prod.fst → t ∉ r.s.map Prod.fst) ∧
    (∀ l, r.see = some l → r.p = []) ∧ (∀ j q, j < i → R[j]? = some q → r.A.testBit j = false → apart1 q r.p = true) := by
  obtain ⟨o, ho, hok, hN⟩ := hR.of hr
  have hk := hok.ok
  simp only [okRc, Bool.and_eq_true] at hk
  obtain ⟨⟨⟨⟨⟨⟨k1, k2⟩, k3⟩, k4⟩, k5⟩, k6⟩, k7⟩ := hk
  have mem : ∀ j q, j < i → R[j]? = some q → (R.take i)[j]? = some q := fun j q hj hq => by rw [List.getElem?_take_of_lt hj]; exact hq
  refine ⟨Nat.le_of_ble_eq_true k1, Nat.le_of_ble_eq_true k2, hN, fun j q hj hq => ?_, fun l hm => ?_, fun j q hj hq hA => ?_⟩
  · rw [List.all_eq_true] at k3
    have := k3 q (List.mem_of_getElem? (mem j q hj hq))
    rw [Bool.and_eq_true] at this
    refine ⟨Nat.le_of_ble_eq_true this.1, fun t ht ht' => ?_⟩
    obtain ⟨x, hx, rfl⟩ := List.mem_map.1 ht
    obtain ⟨y, hy, hxy⟩ := List.mem_map.1 ht'
    have h2 := this.2
    rw [List.all_eq_true] at h2
    have h3 := h2 x hx
    rw [List.all_eq_true] at h3
    have h4 := h3 y hy
    rw [hxy] at h4
    simp at h4
  · rw [hm] at k4
    simp only [Option.isNone_some, Bool.false_or, Bool.and_eq_true] at k4
    exact List.isEmpty_iff.1 k4.1
  · exact apartA_spec k5 j q (mem j q hj hq) (by simpa using hA)

def OkId (R : List Rc) (n0 : Nat) (S : Nat → Bool) (id : Nat) : Prop := id < n0 ∨ ∃ k q, R[k]? = some q ∧ S k = true ∧ q.lo ≤ id ∧ id < q.hi

omit hR in
theorem Recs.ids {i : Nat} {r : Rc} (hr : R[i]? = some r) {S : Nat → Bool} (hi : S i = true) (hS : ∀ k, r.A.testBit k = true → S k = true) :
    ∀ id, (Nat.blt id n0 || Nat.ble r.lo id && Nat.blt id r.hi || okA (r.A.testBit ·) id 0 (R.take i)) = true → OkId R n0 S id := by
  intro id hid
  simp only [Bool.or_eq_true, Bool.and_eq_true] at hid
  rcases hid with (h1 | ⟨h1, h2⟩) | h1
  · exact .inl (by simpa [Nat.blt_eq] using h1)
  · exact .inr ⟨i, r, hr, hi, Nat.le_of_ble_eq_true h1, by simpa [Nat.blt_eq] using h2⟩
  · obtain ⟨j, q, g1, g2, g3, g4⟩ := okA_spec h1
    have hj : j < i := by
      have := (List.getElem?_eq_some_iff.1 g1).1
      rw [List.length_take] at this; omega
    rw [List.getElem?_take_of_lt hj] at g1
    exact .inr ⟨j, q, g1, hS j (by simpa using g2), g3, g4⟩

open Classical in
theorem Recs.heap {S : Nat → Bool} (hS : ∀ i r, R[i]? = some r → S i = true → ∀ k, r.A.testBit k = true → S k = true) {id : Nat} (hl : lk (selH S 0 R ++ h0) id ≠ .dead) :
    OkId R n0 S id ∧ ∀ x ∈ (lk (selH S 0 R ++ h0) id).vals, inB (fun id => decide (OkId R n0 S id)) x = true := by
  rw [lk_append] at hl ⊢
  by_cases hk : id ∈ (selH S 0 R).map Prod.fst
  · rw [if_pos hk] at hl
    rw [if_pos hk]
    obtain ⟨j, r, h1, h2, h3, h4⟩ := selH_some hk
    rw [Nat.zero_add] at h2
    rw [h4]
    obtain ⟨o, ho, hok, _⟩ := hR.of h1
    have hk := hok.ok
    simp only [okRc, Bool.and_eq_true] at hk
    have h7 := hk.2
    rw [List.all_eq_true] at h7
    have h8 := h7 _ (lk_mem h3)
    rw [Bool.and_eq_true] at h8
    have ids := Recs.ids (n0 := n0) h1 h2 (hS j r h1 h2)
    refine ⟨ids _ h8.1, fun x hx => ?_⟩
    have h9 := h8.2
    unfold inBk at h9
    obtain ⟨l, hl1⟩ := List.getElem?_of_mem hx
    exact inB_mono (fun id hid => by simpa using ids id hid) x (inBs_all h9 l x hl1)
  · rw [if_neg hk] at hl
    rw [if_neg hk]
    refine ⟨.inl (hR.hlt id hl), fun x hx => ?_⟩
    exact inB_mono (fun id hid => decide_eq_true (show OkId R n0 S id from Or.inl (by simpa [Nat.blt_eq] using hid))) x (hR.hbox id x hx)

theorem Recs.view {i : Nat} {r : Rc} (hr : R[i]? = some r) {S : Nat → Bool} (hS : ∀ i r, R[i]? = some r → S i = true → ∀ k, r.A.testBit k = true → S k = true)
    (hi : S i = false) (hA : ∀ k, r.A.testBit k = true → S k = true) (id : Nat) :
    (lk (viewH (r.A.testBit ·) (R.take i) h0 r.see) id = .dead ∨ lk (viewH (r.A.testBit ·) (R.take i) h0 r.see) id = lk (selH S 0 R ++ h0) id) ∧
    (lk (viewH (r.A.testBit ·) (R.take i) h0 r.see) id ≠ .dead → id < r.lo ∧ ∀ x ∈ (lk (viewH (r.A.testBit ·) (R.take i) h0 r.see) id).vals, inB (fun id => Nat.blt id r.lo) x = true) := by
  have full : (∀ l, r.see = some l → id ∈ l) → (lk (offH (r.A.testBit ·) 0 (R.take i) ++ (selH (r.A.testBit ·) 0 (R.take i) ++ h0)) id = .dead ∨ lk (offH (r.A.testBit ·) 0 (R.take i) ++ (selH (r.A.testBit ·) 0 (R.take i) ++ h0)) id = lk (selH S 0 R ++ h0) id) ∧
      (lk (offH (r.A.testBit ·) 0 (R.take i) ++ (selH (r.A.testBit ·) 0 (R.take i) ++ h0)) id ≠ .dead → id < r.lo ∧ ∀ x ∈ (lk (offH (r.A.testBit ·) 0 (R.take i) ++ (selH (r.A.testBit ·) 0 (R.take i) ++ h0)) id).vals, inB (fun id => Nat.blt id r.lo) x = true) := by
    intro hsee
    rw [lk_append]
    by_cases hk : id ∈ (offH (r.A.testBit ·) 0 (R.take i)).map Prod.fst
    · rw [if_pos hk, offH_dead]
      exact ⟨.inl rfl, fun h => absurd rfl h⟩
    · rw [if_neg hk]
      have hAi : ∀ j, i ≤ j → (r.A.testBit ·) (0 + j) = false := by
        intro j hj
        rw [Nat.zero_add]
        cases hb : r.A.testBit j
        · exact hb
        · have := (hR.bit i r hr j hb).1; omega
      rw [selH_take hAi]
      have hcl : ∀ j q, R[j]? = some q → (r.A.testBit ·) j = true → ∀ k, q.A.testBit k = true → (r.A.testBit ·) k = true := by
        intro j q hq hj k hk
        obtain ⟨_, q', h2, h3⟩ := hR.bit i r hr j hj
        rw [hq] at h2; injection h2 with h2; subst h2
        exact h3 k hk
      have lows : ∀ id, OkId R n0 (r.A.testBit ·) id → id < r.lo := by
        rintro id (h1 | ⟨j, q, h1, h2, h3, h4⟩)
        · have := (hR.facts hr).1; omega
        · have h5 := (hR.bit i r hr j h2).1
          have := ((hR.facts hr).2.2.2.1 j q h5 h1).1
          omega
      by_cases hd : lk (selH (r.A.testBit ·) 0 R ++ h0) id = .dead
      · exact ⟨.inl hd, fun h => absurd hd h⟩
      · obtain ⟨h1, h2⟩ := hR.heap hcl hd
        refine ⟨.inr ?_, fun _ => ⟨lows id h1, fun x hx => ?_⟩⟩
        · refine selH_congr (fun j q hq hne hmemq => ?_) rfl
          rw [Nat.zero_add] at hne
          have hSj : S j = true ∧ r.A.testBit j = false := by
            cases hb : r.A.testBit j
            · cases hs : S j
              · rw [hb, hs] at hne; exact absurd rfl hne
              · exact ⟨rfl, rfl⟩
            · rw [hA j hb] at hne
              exact absurd hb (by simpa using hne)
          have hji : j ≠ i := by rintro rfl; rw [hi] at hSj; cases hSj.1
          rcases Nat.lt_or_ge j i with hlt | hge
          · exact hk (offH_keys.2 ⟨j, q, by rw [List.getElem?_take_of_lt hlt]; exact hq, by rw [Nat.zero_add]; exact hSj.2, hmemq⟩)
          · have hlt : i < j := by omega
            have hnA : q.A.testBit i = false := by
              cases hb : q.A.testBit i
              · rfl
              · have := hS j q hq hSj.1 i hb
                rw [hi] at this; cases this
            obtain ⟨p1, p2⟩ := apart1_spec ((hR.facts hq).2.2.2.2.2 i r hlt hr hnA) hmemq
            cases hsr : r.see with
            | none =>
              have := (p1 hsr).1
              have h3 := lows id h1
              have := (hR.facts hr).2.1
              omega
            | some l => exact p2 l hsr (hsee l hsr)
        · exact inB_mono (fun id hid => by simpa [Nat.blt_eq] using lows id (by simpa using hid)) x (h2 x hx)
  cases hsee : r.see with
  | none =>
    simp only [viewH]
    exact full (fun l hl => by rw [hsee] at hl; cases hl)
  | some l =>
    simp only [viewH]
    have key : ∀ (l : List Nat) (H : Heap), (id ∈ l → lk (l.map fun id => (id, lk H id)) id = lk H id) ∧ (id ∉ l → lk (l.map fun id => (id, lk H id)) id = .dead) := by
      intro l H
      induction l with
      | nil => exact ⟨fun h => by simp at h, fun _ => rfl⟩
      | cons a l ih =>
        rw [List.map_cons, lk_cons]
        by_cases ha : a = id
        · subst ha; rw [if_pos rfl]; exact ⟨fun _ => rfl, fun h => absurd List.mem_cons_self h⟩
        · rw [if_neg ha]
          exact ⟨fun h => ih.1 ((List.mem_cons.1 h).resolve_left fun h' => ha h'.symm), fun h => ih.2 fun h' => h (List.mem_cons_of_mem _ h')⟩
    by_cases hin : id ∈ l
    · rw [(key l _).1 hin]
      exact full (fun l' hl => by rw [hsee] at hl; injection hl with hl; subst hl; exact hin)
    · rw [(key l _).2 hin]
      exact ⟨.inl rfl, fun h => absurd rfl h⟩
end
end Go.Fw
end
section
set_option linter.unusedVariables false
set_option linter.unusedSimpArgs false
namespace Go.Fw
variable {P : Program}

theorem get_junked : ∀ (all : List Oper) (f : Slots) (t : Nat), get (junked all ++ f) t = .junk ∨ (get (junked all ++ f) t = get f t ∧ ∀ o ∈ all, o.dst ≠ some t)
  | [], f, t => .inr ⟨rfl, by simp⟩
  | o :: os, f, t => by
    have ih := get_junked os f t
    cases hd : o.dst with
    | none =>
      have he : junked (o :: os) ++ f = junked os ++ f := by simp [junked, hd]
      rw [he]
      rcases ih with ih | ⟨h1, h2⟩
      · exact .inl ih
      · refine .inr ⟨h1, fun o' ho' => ?_⟩
        rcases List.mem_cons.1 ho' with rfl | ho'
        · rw [hd]; simp
        · exact h2 o' ho'
    | some d =>
      have he : junked (o :: os) ++ f = (d, V.junk) :: (junked os ++ f) := by simp [junked, hd]
      rw [he, get_cons]
      by_cases hdt : d = t
      · rw [if_pos hdt]; exact .inl rfl
      · rw [if_neg hdt]
        rcases ih with ih | ⟨h1, h2⟩
        · exact .inl ih
        · refine .inr ⟨h1, fun o' ho' => ?_⟩
          rcases List.mem_cons.1 ho' with rfl | ho'
          · rw [hd]; simpa using hdt
          · exact h2 o' ho'

theorem get_jk {gs ms : List Nat} {i : Nat} : ∀ (os : List Oper) (j0 : Nat) (f : Slots) (t : Nat), get (jkGo ms gs i os j0 ++ f) t = .junk ∨ (get (jkGo ms gs i os j0 ++ f) t = get f t ∧ ∀ k o, os[k]? = some o → o.dst = some t → (ms.getD (j0 + k) 0).testBit i = true ∧ hasN gs t = false)
  | [], j0, f, t => .inr ⟨rfl, fun k o h => by simp at h⟩
  | o :: os, j0, f, t => by
    have ih := get_jk (gs := gs) (ms := ms) (i := i) os (j0 + 1) f t
    have next : ∀ {A : Prop}, (∀ k o', os[k]? = some o' → o'.dst = some t → (ms.getD (j0 + 1 + k) 0).testBit i = true ∧ hasN gs t = false) → (o.dst = some t → (ms.getD j0 0).testBit i = true ∧ hasN gs t = false) → ∀ k o', (o :: os)[k]? = some o' → o'.dst = some t → (ms.getD (j0 + k) 0).testBit i = true ∧ hasN gs t = false := by
      intro _ h1 h2 k o' hk hd
      cases k with
      | zero =>
        simp only [List.getElem?_cons_zero, Option.some.injEq] at hk
        subst hk
        exact h2 hd
      | succ k =>
        have := h1 k o' (by simpa using hk) hd
        rwa [show j0 + 1 + k = j0 + (k + 1) by omega] at this
    simp only [jkGo]
    cases hd : o.dst with
    | none =>
      simp only
      rcases ih with ih | ⟨h1, h2⟩
      · exact .inl ih
      · exact .inr ⟨h1, next (A := True) h2 (fun h => by rw [hd] at h; cases h)⟩
    | some d =>
      simp only
      cases hb : ((ms.getD j0 0).testBit i && !hasN gs d)
      · simp only [cond_false, List.cons_append]
        rw [get_cons]
        by_cases hdt : d = t
        · rw [if_pos hdt]; exact .inl rfl
        · rw [if_neg hdt]
          rcases ih with ih | ⟨h1, h2⟩
          · exact .inl ih
          · exact .inr ⟨h1, next (A := True) h2 (fun h => by rw [hd] at h; injection h with h; exact absurd h hdt)⟩
      · simp only [cond_true]
        rcases ih with ih | ⟨h1, h2⟩
        · exact .inl ih
        · refine .inr ⟨h1, next (A := True) h2 (fun h => ?_)⟩
          rw [hd] at h
          injection h with h
          subst h
          simpa using hb
theorem natsB_is : ∀ {a b : List Nat}, natsB a b = true → a = b
  | [], [], _ => rfl
  | a :: l, b :: m, h => by
    simp only [natsB, Bool.and_eq_true] at h
    rw [Nat.eq_of_beq_eq_true h.1, natsB_is h.2]
theorem forceNat_is {α : Type} {n : Nat} {K : Nat → Option α} : forceNat n K = K n := by cases n <;> rfl
theorem forceNs_is {α : Type} : ∀ {l : List Nat} {K : List Nat → Option α}, forceNs l K = K l
  | [], K => rfl
  | n :: l, K => by simp only [forceNs, forceNat_is, forceNs_is]
structure DInv (h : Hs) (all : Array Oper) (f : Slots) (n0 : Nat) (h0 : Heap) (R : List Rc) (N lo nt : Nat) (c0 : Cf) (S : Nat → Bool) (c : Cf) (a : Act) : Prop where
  cl : ∀ i r, R[i]? = some r → S i = true → ∀ k, r.A.testBit k = true → S k = true
  glob : Glob c
  g : c.G = h.G
  size : nt ≤ a.tmps.size
  defers : Marks lo c a.defers
  ext : Ext c0 n0 c
  base : ∀ t, (∀ j o, all[j]? = some o → S j = true → o.dst ≠ some t) → RelV c n0 (get f t) (a.tmps.getD t undef)
  rec_ : ∀ i r, R[i]? = some r → S i = true → ∀ x ∈ r.s, RelV c N x.2 (a.tmps.getD x.1 undef)
  heap : RelH c N (selH S 0 R ++ h0)

theorem put_get (a : Act) (d : Nat) (v : Value) (t : Nat) (h : d ≠ t) : (a.put (some d) v).tmps.getD t undef = a.tmps.getD t undef := by
  simp [Act.put, Array.getD_eq_getD_getElem?, h]
theorem suffix_take {α : Type} {a b : List α} (h : a <:+ b) : b = b.take (b.length - a.length) ++ a := by
  obtain ⟨t, rfl⟩ := h
  simp

theorem rec_keys {A : Nat} {o : Oper} {n : Nat} {see : Option (List Nat)} {hv : Heap} {st : St} : ∀ t, t ∈ (rcOf A o n see hv st).s.map Prod.fst ↔ o.dst = some t := by
  intro t
  simp only [rcOf, putOf]
  cases o.dst with
  | none => simp
  | some d => simp [eq_comm]

theorem draw_step {ro : Option Nat} {h : Hs} (hok : CallsOK P h) {all : Array Oper} {f : Slots} {n0 : Nat} {h0 : Heap} {R : List Rc} {N lo nt : Nat} {c0 : Cf} {ms gs : List Nat} (hms : R.map (·.A) = ms) (hR : Recs P h all (fun i => jkGo ms gs i all.toList 0 ++ f) n0 h0 R N)
    (hall : ∀ o ∈ all.toList, ∀ d, o.dst = some d → d < nt) {S : Nat → Bool} {c : Cf} {a : Act} (inv : DInv h all f n0 h0 R N lo nt c0 S c a) {i : Nat} {o : Oper} (ho : all[i]? = some o) (hi : S i = false)
    (hedge : ∀ e ∈ o.after.toList, Region.binds .any e = true → S e.on = true) {K : Act → World → Prop} {Q : Exit → Act → World → Prop}
    (hK : ∀ a' c', DInv h all f n0 h0 R N lo nt c0 (fun j => S j || j == i) c' a' → K a' c'.w) : wpOpIn (Fe ro) 3 P all Q i K a c.w := by
  obtain ⟨r, hr, hrc, hN⟩ := hR.at_ i o ho
  obtain ⟨st', hev, hrd⟩ := hrc.st
  obtain ⟨f1, f2, f3, f4, f5, f6⟩ := hR.facts hr
  obtain ⟨a1, a2⟩ := ancB_spec hrc.anc
  have hA : ∀ k, r.A.testBit k = true → S k = true := by
    intro k hk
    obtain ⟨e, he, hb, q, hq, hkq⟩ := a2 k hk
    have hs := hedge e he hb
    rcases hkq with rfl | hkq
    · exact hs
    · have hei : e.on < i := by
        have := (List.getElem?_eq_some_iff.1 hq).1
        rw [List.length_take] at this; omega
      rw [List.getElem?_take_of_lt hei] at hq
      exact inv.cl e.on q hq hs k hkq
  have hAi : ∀ j, i ≤ j → (r.A.testBit ·) (0 + j) = false := by
    intro j hj
    rw [Nat.zero_add]
    cases hb : r.A.testBit j
    · exact hb
    · have := (hR.bit i r hr j hb).1; omega
  have hkey : ∀ t, t ∈ r.s.map Prod.fst ↔ o.dst = some t := by rw [hrd]; exact rec_keys
  have view := hR.view hr inv.cl hi hA
  -- the slots that it sees
  have hs : RelS { c with K := joinK c (selH S 0 R ++ h0) (viewH (r.A.testBit ·) (R.take i) h0 r.see) } r.lo (selS (r.A.testBit ·) 0 (R.take i) ++ (jkGo ms gs i all.toList 0 ++ f)) a.tmps := by
    have hW : ExtW c { c with K := joinK c (selH S 0 R ++ h0) (viewH (r.A.testBit ·) (R.take i) h0 r.see) } := ⟨fun b hb => ⟨hb, rfl⟩, .refl _, fun b cs e fz h => ⟨cs, h, rfl⟩⟩
    refine ⟨inv.glob, fun t => ?_⟩
    rw [selS_take hAi, get_append]
    by_cases hk : t ∈ (selS (r.A.testBit ·) 0 R).map Prod.fst
    · rw [if_pos hk]
      obtain ⟨j, q, h1, h2, h3⟩ := selS_keys.1 hk
      rw [Nat.zero_add] at h2
      have hji := (hR.bit i r hr j h2).1
      rw [selS_last h1 (by rw [Nat.zero_add]; exact h2) h3 (fun j' q' hj' hq' _ ht' => ((hR.facts hq').2.2.2.1 j q hj' h1).2 t h3 ht')]
      obtain ⟨x, hx, rfl⟩ := List.mem_map.1 h3
      have hxs : get q.s x.1 = x.2 := by
        obtain ⟨o', ho', hrc', _⟩ := hR.of h1
        obtain ⟨st'', _, hq''⟩ := hrc'.st
        rw [hq''] at hx ⊢
        simp only [rcOf, putOf] at hx ⊢
        cases hd : o'.dst with
        | none => rw [hd] at hx; simp at hx
        | some d =>
          rw [hd] at hx
          simp only [List.mem_singleton] at hx
          subst hx
          simp [get]
      rw [hxs]
      obtain ⟨o', ho', hrc', _⟩ := hR.of h1
      have hk' := hrc'.ok
      simp only [okRc, Bool.and_eq_true] at hk'
      have h6 := hk'.1.2
      rw [List.all_eq_true] at h6
      refine (inv.rec_ j q h1 (hA j h2) x hx).move hW (fun id hp => ⟨?_, rfl, rfl⟩) (h6 x hx)
      have hqA : ∀ k, q.A.testBit k = true → (fun k => r.A.testBit k) k = true := by
        obtain ⟨_, q', g2, g3⟩ := hR.bit i r hr j h2
        rw [h1] at g2; injection g2 with g2; subst g2
        exact g3
      rcases Recs.ids (n0 := n0) h1 (S := fun k => r.A.testBit k) h2 hqA id hp with h5 | ⟨k, p, g1, g2, g3, g4⟩
      · omega
      · have := (f4 k p (hR.bit i r hr k g2).1 g1).1; omega
    · rw [if_neg hk]
      rcases get_jk (gs := gs) (ms := ms) (i := i) all.toList 0 f t with h1 | ⟨h1, h2'⟩
      · rw [h1]; exact .junk _
      · rw [h1]
        have h2 : ∀ j o, all[j]? = some o → S j = true → o.dst ≠ some t := by
          intro j o' ho' hj hd
          have hb := (h2' j o' (by simpa using ho') hd).1
          rw [Nat.zero_add] at hb
          obtain ⟨q, hq, _, _⟩ := hR.at_ j o' ho'
          have hqm : ms.getD j 0 = q.A := by
            rw [← hms, List.getD_eq_getElem?_getD, List.getElem?_map, hq]; rfl
          rw [hqm] at hb
          have := inv.cl j q hq hj i hb
          rw [hi] at this
          cases this
        refine (inv.base t h2).move hW (fun id hp => ⟨?_, rfl, rfl⟩) (inv.base t h2).inB
        have : id < n0 := by simpa [Nat.blt_eq] using hp
        omega
  have hH := view_heap inv.heap (fun id => (view id).1) (fun id hl => ((view id).2 hl).1) (fun id hb x hx => ((view id).2 hb).2 x hx)
  have hsr : SR h.G lo nt { c with K := joinK c (selH S 0 R ++ h0) (viewH (r.A.testBit ·) (R.take i) h0 r.see) } ⟨selS (r.A.testBit ·) 0 (R.take i) ++ (jkGo ms gs i all.toList 0 ++ f), r.lo, viewH (r.A.testBit ·) (R.take i) h0 r.see⟩ a :=
    ⟨inv.g, hs, hH, inv.size, inv.defers⟩
  unfold wpOpIn
  simp only [ho]
  refine evOper_wp hok.noCall hall (List.mem_of_getElem? (by rw [Array.getElem?_toList]; exact ho)) hev hsr fun v c' hx hn hsr' => ?_
  have hsuf := suffix_take (evOper_suffix (fun _ _ _ _ => rfl) (fun _ _ _ => rfl) hev)
  have hrp : r.p = st'.h.take (st'.h.length - (viewH (r.A.testBit ·) (R.take i) h0 r.see).length) := by
    have := congrArg Rc.p hrd
    exact this
  have hrs : r.s = putOf o.dst st'.f := by
    have := congrArg Rc.s hrd
    exact this
  have hrhi : r.hi = st'.n := by
    have := congrArg Rc.hi hrd
    exact this
  have hsuf' : st'.h = r.p ++ viewH (r.A.testBit ·) (R.take i) h0 r.see := by rw [hrp]; exact hsuf
  -- numbers of the others
  have rng : ∀ id, OkId R n0 S id → ¬ (r.lo ≤ id ∧ id < r.hi) := by
    rintro id (h1 | ⟨k, q, h1, h2, h3, h4⟩) ⟨h5, h6⟩
    · omega
    · rcases Nat.lt_trichotomy k i with hk | hk | hk
      · have := (f4 k q hk h1).1; omega
      · subst hk; rw [hi] at h2; cases h2
      · have := ((hR.facts h1).2.2.2.1 i r hk hr).1; omega
  have rngB : ∀ id, OkId R n0 S id → (!(Nat.ble r.lo id && Nat.blt id r.hi)) = true := by
    intro id hid
    cases hb : (Nat.ble r.lo id && Nat.blt id r.hi)
    · rfl
    · rw [Bool.and_eq_true] at hb
      exact absurd ⟨Nat.le_of_ble_eq_true hb.1, by simpa [Nat.blt_eq] using hb.2⟩ (rng id hid)
  have hx' : Ext { c with K := joinK c (selH S 0 R ++ h0) (viewH (r.A.testBit ·) (R.take i) h0 r.see) } r.lo c' := hx
  have hle : r.lo ≤ st'.n := hn
  have hext : Ext c0 n0 (joinC c c' r.lo r.hi) := by
    refine ⟨Nat.le_trans inv.ext.size hx'.size, fun b hb => ⟨(hx'.kept b (inv.ext.kept b hb).1).1, ((hx'.kept b (inv.ext.kept b hb).1).2).trans (inv.ext.kept b hb).2⟩, fun b cs e fz hc => ?_, inv.ext.loops.trans hx'.loops, fun id hid => ?_, fun id hid => ?_, inv.ext.K, hx'.G.trans inv.ext.G, fun b hb => ?_, hx'.os.trans inv.ext.os, hx'.tape.trans inv.ext.tape, hx'.output.trans inv.ext.output, fun b hb => hx'.defs b (inv.ext.defs b hb)⟩
    · obtain ⟨cs1, h1, h2⟩ := inv.ext.shape b cs e fz hc
      obtain ⟨cs2, h3, h4⟩ := hx'.shape b cs1 e fz h1
      exact ⟨cs2, h3, h4.trans h2⟩
    · simp only [joinC]
      rw [if_neg (by omega)]
      exact inv.ext.bk id hid
    · simp only [joinC]
      rw [if_neg (by omega)]
      exact inv.ext.ln id hid
    · exact (hx'.keptK b (.inl (by rw [inv.ext.K]; exact hb))).trans (inv.ext.keptK b hb)
  -- what it makes of memory
  have hnew : ∀ id, id ∈ r.p.map Prod.fst → lk (selH (fun j => S j || j == i) 0 R ++ h0) id = lk r.p id := by
    intro id hid
    rw [lk_append, if_pos (selH_keys.2 ⟨i, r, hr, by simp, hid⟩)]
    refine selH_last hr (by simp) hid fun j q hj hq hSj hmem' => ?_
    have hSj' : S j = true := by
      rw [Nat.zero_add] at hSj
      rcases Bool.or_eq_true _ _ ▸ hSj with h1 | h1
      · exact h1
      · have : j = i := by simpa using h1
        omega
    have hnA : q.A.testBit i = false := by
      cases hb : q.A.testBit i
      · rfl
      · have := inv.cl j q hq hSj' i hb
        rw [hi] at this; cases this
    have hm : r.see = none := by
      cases hm : r.see with
      | none => rfl
      | some l => rw [f5 l hm] at hid; simp at hid
    exact ((apart1_spec ((hR.facts hq).2.2.2.2.2 i r hj hr hnA) hmem').1 hm).2 hid
  have hsame : ∀ id, id ∉ r.p.map Prod.fst → lk (selH (fun j => S j || j == i) 0 R ++ h0) id = lk (selH S 0 R ++ h0) id := by
    intro id hid
    refine selH_congr (fun j q hq hne hm => ?_) rfl
    rw [Nat.zero_add] at hne
    by_cases hj : j = i
    · subst hj
      rw [hr] at hq; injection hq with hq; subst hq
      exact hid hm
    · have : (j == i) = false := by simpa using hj
      simp [this] at hne
  have hheap : RelH (joinC c c' r.lo r.hi) N (selH (fun j => S j || j == i) 0 R ++ h0) := by
    refine join_heap inv.heap f2 f3 hx' (hp' := st'.h) (by rw [hrhi]; exact hsr'.h) (fun id => ?_) (fun id hl => rng id (hR.heap inv.cl hl).1) (fun id hb x hx => ?_)
    · by_cases hid : id ∈ r.p.map Prod.fst
      · refine .inl ?_
        rw [hnew id hid, hsuf', lk_append, if_pos hid]
      · have e1 : lk st'.h id = lk (viewH (r.A.testBit ·) (R.take i) h0 r.see) id := by rw [hsuf', lk_append, if_neg hid]
        rw [hsame id hid, e1]
        rcases (view id).1 with h1 | h1
        · exact .inr ⟨h1, rfl, h1⟩
        · exact .inl h1.symm
    · exact inB_mono (fun id hid => rngB id (@of_decide_eq_true _ (Classical.propDecidable _) hid)) x ((hR.heap inv.cl hb).2 x hx)
  refine hK _ (joinC c c' r.lo r.hi) ⟨?_, ?_, ?_, ?_, ?_, hext, ?_, ?_, hheap⟩
  · intro j q hq hj k hk
    rcases Bool.or_eq_true _ _ ▸ hj with h1 | h1
    · simp only [inv.cl j q hq h1 k hk, Bool.true_or]
    · have : j = i := by simpa using h1
      subst this
      rw [hr] at hq; injection hq with hq; subst hq
      simp only [hA k hk, Bool.true_or]
  · intro g cs hg
    exact hsr'.s.glob g cs hg
  · exact hsr'.g
  · rw [put_size]; exact inv.size
  · rw [put_defers]; exact inv.defers.on hx'.size hx'.defs
  · intro t ht
    have hne : o.dst ≠ some t := ht i o ho (by simp)
    have e : (a.put o.dst v).tmps.getD t undef = a.tmps.getD t undef := by
      cases hd : o.dst with
      | none => rfl
      | some d => exact put_get a d v t (by rintro rfl; exact hne hd)
    rw [e]
    have hb := inv.base t fun j o' ho' hj => ht j o' ho' (by simp [hj])
    exact join_old hR.n0N hx' hb (inB_mono (fun id hid => rngB id (.inl (by simpa [Nat.blt_eq] using hid))) _ hb.inB)
  · intro j q hq hj x hx
    by_cases hji : j = i
    · subst hji
      rw [hr] at hq; injection hq with hq; subst hq
      rw [hrs] at hx
      unfold putOf at hx
      cases hd : o.dst with
      | none => rw [hd] at hx; simp at hx
      | some d =>
        rw [hd] at hx
        simp only [List.mem_singleton] at hx
        subst hx
        have hg := hsr'.s.get d
        rw [hd, ← hrhi] at hg
        exact join_new f2 f3 hx' hg
    · have hSj : S j = true := by
        rcases Bool.or_eq_true _ _ ▸ hj with h1 | h1
        · exact h1
        · exact absurd (by simpa using h1) hji
      have hxk : x.1 ∈ q.s.map Prod.fst := List.mem_map.2 ⟨x, hx, rfl⟩
      have e : (a.put o.dst v).tmps.getD x.1 undef = a.tmps.getD x.1 undef := by
        cases hd : o.dst with
        | none => rfl
        | some d =>
          refine put_get a d v _ ?_
          rintro rfl
          have hxr := (hkey x.1).2 hd
          rcases Nat.lt_trichotomy j i with hk | hk | hk
          · exact (f4 j q hk hq).2 _ hxk hxr
          · exact hji hk
          · exact ((hR.facts hq).2.2.2.1 i r hk hr).2 _ hxr hxk
      rw [e]
      have hb := inv.rec_ j q hq hSj x hx
      obtain ⟨o', ho', hrc', _⟩ := hR.of hq
      have hk' := hrc'.ok
      simp only [okRc, Bool.and_eq_true] at hk'
      have h6 := hk'.1.2
      rw [List.all_eq_true] at h6
      exact join_old (Nat.le_refl _) hx' hb (inB_mono (fun id hid => rngB id (Recs.ids (n0 := n0) hq hSj (inv.cl j q hq hSj) id hid)) _ (h6 x hx))

theorem DInv.setS {h : Hs} {all : Array Oper} {f : Slots} {n0 : Nat} {h0 : Heap} {R : List Rc} {N lo nt : Nat} {c0 c : Cf} {S T : Nat → Bool} {a : Act} (inv : DInv h all f n0 h0 R N lo nt c0 S c a) (hST : S = T) :
    DInv h all f n0 h0 R N lo nt c0 T c a := hST ▸ inv

def openN (all : Array Oper) (listed : Array Bool) : Nat := ((List.range all.size).filter fun i => !listed.getD i true).length

theorem draw_any {ro : Option Nat} {h : Hs} (hok : CallsOK P h) {all : Array Oper} {f : Slots} {n0 : Nat} {h0 : Heap} {R : List Rc} {N lo nt : Nat} {c0 : Cf} {ms gs : List Nat} (hms : R.map (·.A) = ms) (hR : Recs P h all (fun i => jkGo ms gs i all.toList 0 ++ f) n0 h0 R N)
    (hall : ∀ o ∈ all.toList, ∀ d, o.dst = some d → d < nt) {Q : Exit → Act → World → Prop}
    (hQ : ∀ a c S, DInv h all f n0 h0 R N lo nt c0 S c a → (∀ i, i < all.size → S i = true) → Q .normal a c.w) :
    ∀ (fuel : Nat) (listed : Array Bool) (a : Act) (c : Cf), listed.size = all.size → openN all listed ≤ fuel → DInv h all f n0 h0 R N lo nt c0 (fun i => listed.getD i false) c a → wpAnyIn (Fe ro) 3 P .any all Q fuel listed a c.w := by
  have done : ∀ (listed : Array Bool), listed.size = all.size → Region.ready .any all listed = [] → ∀ i, i < all.size → listed.getD i false = true := by
    intro listed hsz hr i
    induction i using Nat.strongRecOn with
    | _ i ih =>
      intro hi
      cases hl : listed.getD i false with
      | true => rfl
      | false =>
        exfalso
        have hmem : i ∈ Region.ready .any all listed := by
          unfold Region.ready
          rw [List.mem_filter]
          refine ⟨List.mem_range.2 hi, ?_⟩
          have h1 : listed.getD i true = false := by
            rw [Array.getD_eq_getD_getElem?, Array.getElem?_eq_getElem (by omega)] at hl ⊢
            exact hl
          rw [h1, Array.getElem?_eq_getElem hi]
          simp only [Bool.not_false, Bool.true_and, Option.map_some, Option.getD_some, Array.all_eq_true']
          intro e he
          cases hb : Region.binds .any e with
          | false => rfl
          | true =>
            obtain ⟨r, hr', hrc, _⟩ := hR.at_ i all[i] (Array.getElem?_eq_getElem hi)
            obtain ⟨q, hq, _, _⟩ := (ancB_spec hrc.anc).1 e (by simpa using he) hb
            have hlt : e.on < i := by
              have := (List.getElem?_eq_some_iff.1 hq).1
              rw [List.length_take] at this; omega
            simpa using ih e.on hlt (by omega)
        rw [hr] at hmem
        cases hmem
  intro fuel
  induction fuel with
  | zero =>
    intro listed a c hsz hn inv
    have hnil : Region.ready .any all listed = [] := by
      have h0 : (List.range all.size).filter (fun i => !listed.getD i true) = [] := List.length_eq_zero_iff.1 (Nat.le_zero.1 hn)
      unfold Region.ready
      rw [List.filter_eq_nil_iff] at h0 ⊢
      intro i hi hb
      rw [Bool.and_eq_true] at hb
      exact h0 i hi hb.1
    exact ⟨hnil, hQ a c _ inv (done listed hsz hnil)⟩
  | succ fuel ih =>
    intro listed a c hsz hn inv
    refine ⟨fun hnil => hQ a c _ inv (done listed hsz hnil), fun i hi => ?_⟩
    unfold Region.ready at hi
    rw [List.mem_filter, List.mem_range, Bool.and_eq_true] at hi
    obtain ⟨hlt, hl, hedge⟩ := hi
    have ho : all[i]? = some all[i] := Array.getElem?_eq_getElem hlt
    rw [ho] at hedge
    simp only [Option.map_some, Option.getD_some, Array.all_eq_true'] at hedge
    have hl0 : listed.getD i false = false := by
      rw [Array.getD_eq_getD_getElem?, Array.getElem?_eq_getElem (by omega)] at hl ⊢
      simpa using hl
    refine draw_step hok hms hR hall inv ho hl0 (fun e he hb => ?_) fun a' c' inv' => ?_
    · have := hedge e (by simpa using he)
      rw [hb] at this
      simpa using this
    · refine ih _ a' c' (by simp [hsz]) ?_ (inv'.setS ?_)
      · have hlen : openN all (listed.setIfInBounds i true) < openN all listed := by
          unfold openN
          have hset : ∀ j, (!(listed.setIfInBounds i true).getD j true) = (!(j == i) && !listed.getD j true) := by
            intro j
            rw [Array.getD_eq_getD_getElem?, Array.getElem?_setIfInBounds, Array.getD_eq_getD_getElem?]
            by_cases hj : i = j
            · subst hj
              rw [if_pos rfl, if_pos (by omega)]
              simp
            · rw [if_neg hj]
              have : (j == i) = false := by simpa using fun h => hj h.symm
              rw [this]; simp
          simp only [hset]
          rw [← List.filter_filter]
          rw [List.length_filter_lt_length_iff_exists]
          exact ⟨i, List.mem_filter.2 ⟨List.mem_range.2 hlt, hl⟩, by simp⟩
        omega
      · funext j
        simp only [Array.getD_eq_getD_getElem?, Array.getElem?_setIfInBounds]
        by_cases hj : i = j
        · subst hj
          rw [if_pos rfl, if_pos (by omega)]
          simp
        · rw [if_neg hj]
          have : (j == i) = false := by simpa using fun h => hj h.symm
          rw [this]; simp

theorem RelH.lows {c : Cf} {n : Nat} {hp : Heap} (h : RelH c n hp) : ∀ id, ∀ x ∈ (lk hp id).vals, inB (fun id => Nat.blt id n) x = true := by
  intro id x hx
  cases hb : lk hp id with
  | box cs =>
    rw [hb] at hx
    obtain ⟨vs, e, _, _, h3⟩ := h.box id cs hb
    obtain ⟨j, hj⟩ := List.getElem?_of_mem hx
    exact (h3 j x hj).1.inB
  | ot o =>
    rw [hb] at hx
    cases o with
    | fm k l =>
      obtain ⟨es, clock, _, hr⟩ := h.ot id _ hb
      obtain ⟨y, hy, rfl⟩ := List.mem_map.1 hx
      obtain ⟨j, hj⟩ := List.getElem?_of_mem hy
      have hj' : j < es.toList.length := by rw [hr.len]; exact (List.getElem?_eq_some_iff.1 hj).1
      exact (hr.at_ j _ y (List.getElem?_eq_getElem hj') hj).2.2.inB
    | mp K V l => cases hx
    | it s p => cases hx
    | lp s => cases hx
  | arr w xs => rw [hb] at hx; cases hx
  | fz w xs => rw [hb] at hx; cases hx
  | dead => rw [hb] at hx; cases hx

theorem evDraw0_any {ro : Option Nat} {h : Hs} (hok : CallsOK P h) {lo nt : Nat} {all : Array Oper} (hall : ∀ o ∈ all.toList, ∀ d, o.dst = some d → d < nt) {Q : Exit → Act → World → Prop} {st st' : St} {a : Act} {c : Cf}
    (he : evDraw0 P h all.toList st = some st') (hr : SR h.G lo nt c st a) (hQ : ∀ a' c', Ext c st.n c' → st.n ≤ st'.n → SR h.G lo nt c' st' a' → Q .normal a' c'.w) : wpAnyIn (Fe ro) 3 P .any all Q all.size (Array.replicate all.size false) a { c.w with drawn := c.w.drawn + 1 } := by
  unfold evDraw0 at he
  rw [forceNs_is] at he
  obtain ⟨ms, hmsE⟩ : ∃ ms, masks all.toList [] = ms := ⟨_, rfl⟩
  rw [hmsE] at he
  split at he
  · rename_i R N hgo
    obtain ⟨hmb, he⟩ := cond_some he
    have hms := natsB_is hmb
    injection he with he
    subst he
    have hspec := drawGo_spec _ _ _ _ _ hgo
    have hR : Recs P h all (fun i => jkGo ms (gslots all.toList) i all.toList 0 ++ st.f) st.n st.h R N := by
      refine ⟨by rw [hspec.2.1]; simp, hspec.1, fun i o ho => ?_, fun id hl => hr.h.lt id hl, hr.h.lows⟩
      have := hspec.2.2.2 i o (by simpa using ho)
      simpa using this
    -- the same, one more thing drawn
    let c1 : Cf := { c with w := { c.w with drawn := c.w.drawn + 1 } }
    have hext : Ext c st.n c1 := ⟨Nat.le_refl _, fun _ h => ⟨h, rfl⟩, fun _ cs _ _ h => ⟨cs, h, rfl⟩, .refl _, fun _ _ => rfl, fun _ _ => rfl, rfl, rfl, fun _ _ => rfl, rfl, rfl, rfl, fun _ h => h⟩
    have hs1 : RelS c1 st.n st.f a.tmps := hr.s.mono hext (Nat.le_refl _)
    have hh1 : RelH c1 N st.h := by
      have b := hr.h
      refine ⟨fun id o hb => (b.ot id o hb).mono hext hspec.1 (b.lt id (by simp [hb])) rfl, fun id hl => Nat.lt_of_lt_of_le (b.lt id hl) hspec.1, ?_, ?_, ?_, b.own, b.inj, b.low, b.ownK, b.disj, b.lowK⟩
      · intro id cs hb
        obtain ⟨vs, e, h1, h2, h3⟩ := b.box id cs hb
        exact ⟨vs, e, h1, h2, fun j x hj => ⟨(h3 j x hj).1.mono hext hspec.1, (h3 j x hj).2⟩⟩
      · intro id wd xs hb
        exact (b.arr id wd xs hb).frame hext.kept rfl rfl rfl
      · intro id wd xs hb
        exact ⟨(b.fz id wd xs hb).1.frame hext.kept rfl rfl rfl, (b.fz id wd xs hb).2⟩
    have selS0 : ∀ (R : List Rc) (k : Nat), selH (fun _ => false) k R = [] := by
      intro R
      induction R with
      | nil => intro k; rfl
      | cons r R ih => intro k; rw [selH, ih]; rfl
    have lst : (fun i => (Array.replicate all.size false).getD i false) = fun _ => false := by
      funext i
      simp only [Array.getD_eq_getD_getElem?, Array.getElem?_replicate]
      split <;> rfl
    have inv0 : DInv h all st.f st.n st.h R N lo nt c (fun i => (Array.replicate all.size false).getD i false) c1 a := by
      rw [lst]
      refine ⟨fun _ _ _ h => by simp at h, hs1.glob, hr.g, hr.size, hr.defers.mono hext, hext, fun t ht => hs1.get t, fun _ _ _ h => by simp at h, ?_⟩
      rw [selS0]
      exact hh1
    refine draw_any hok hms hR hall (c0 := c) (fun a' c' S inv hS => ?_) all.size _ a c1 (by simp) ?_ inv0
    · have hall' : ∀ i r, R[i]? = some r → S i = true := fun i r hi => hS i (by rw [← hR.len]; exact (List.getElem?_eq_some_iff.1 hi).1)
      have e1 : ∀ id, lk (selH (fun _ => true) 0 R ++ st.h) id = lk (selH S 0 R ++ st.h) id := fun id =>
        selH_congr (fun j r hj hne => absurd (by rw [Nat.zero_add]; exact (hall' j r hj).symm) hne) rfl
      refine hQ a' c' inv.ext hspec.1 ⟨inv.g, ⟨inv.glob, fun t => ?_⟩, ?_, inv.size, inv.defers⟩
      · show RelV c' N (get (selS (fun _ => true) 0 R ++ (junked all.toList ++ st.f)) t) _
        rw [get_append]
        by_cases hk : t ∈ (selS (fun _ => true) 0 R).map Prod.fst
        · rw [if_pos hk]
          obtain ⟨j, q, h1, h2, h3⟩ := selS_keys.1 hk
          rw [selS_last h1 rfl h3 (fun j' q' hj' hq' _ ht' => ((hR.facts hq').2.2.2.1 j q hj' h1).2 t h3 ht')]
          obtain ⟨x, hx, rfl⟩ := List.mem_map.1 h3
          have hxs : get q.s x.1 = x.2 := by
            obtain ⟨o', ho', hrc', _⟩ := hR.of h1
            obtain ⟨st'', _, hq''⟩ := hrc'.st
            rw [hq''] at hx ⊢
            simp only [rcOf, putOf] at hx ⊢
            cases hd : o'.dst with
            | none => rw [hd] at hx; simp at hx
            | some d =>
              rw [hd] at hx
              simp only [List.mem_singleton] at hx
              subst hx
              simp [get]
          rw [hxs]
          exact inv.rec_ j q h1 (hall' j q h1) x hx
        · rw [if_neg hk]
          rcases get_junked all.toList st.f t with h1 | ⟨h1, h2⟩
          · rw [h1]; exact .junk _
          · rw [h1]
            exact (inv.base t fun j o ho _ => h2 o (List.mem_of_getElem? (by rw [Array.getElem?_toList]; exact ho))).mono (.refl _ _) hspec.1
      · have b := inv.heap
        exact b.same e1
    · unfold openN
      have := List.length_filter_le (fun i => !(Array.replicate all.size false).getD i true) (List.range all.size)
      simpa using this
  · cases he

theorem direct_spec : ∀ {es : List Edge} {j : Nat}, (direct es).testBit j = true → ∃ e ∈ es, Region.binds .any e = true ∧ e.on = j
  | [], j, h => by simp [direct] at h
  | e :: es, j, h => by
    unfold direct at h
    cases hb : Region.binds .any e
    · rw [hb, cond_false] at h
      obtain ⟨e', h1, h2⟩ := direct_spec h
      exact ⟨e', List.mem_cons_of_mem _ h1, h2⟩
    · rw [hb, cond_true, Nat.testBit_or, Bool.or_eq_true] at h
      rcases h with h | h
      · rw [Nat.testBit_two_pow, decide_eq_true_eq] at h
        exact ⟨e, List.mem_cons_self, hb, h⟩
      · obtain ⟨e', h1, h2⟩ := direct_spec h
        exact ⟨e', List.mem_cons_of_mem _ h1, h2⟩
def ClosedL (pre : List Oper) (S : Nat → Bool) : Prop := ∀ i o, pre[i]? = some o → S i = true → ∀ e ∈ o.after.toList, Region.binds .any e = true → S e.on = true
theorem closeM_spec {pre : List Oper} {S : Nat → Bool} (hS : ClosedL pre S) : ∀ (i a : Nat), (∀ j, a.testBit j = true → S j = true) → ∀ j, (closeM pre i a).testBit j = true → S j = true
  | 0, a, h => h
  | i + 1, a, h => by
    unfold closeM
    refine closeM_spec hS i _ ?_
    intro j hj
    cases hb : a.testBit i
    · rw [hb, cond_false] at hj; exact h j hj
    · rw [hb, cond_true] at hj
      split at hj
      · rename_i o ho
        rw [Nat.testBit_or, Bool.or_eq_true] at hj
        rcases hj with hj | hj
        · exact h j hj
        · obtain ⟨e, h1, h2, rfl⟩ := direct_spec hj
          exact hS i o ho (h i hb) e h1 h2
      · exact h j hj
theorem edgesB_spec : ∀ {os : List Oper} {k i : Nat} {o : Oper}, edgesB k os = true → os[i]? = some o → ∀ e ∈ o.after.toList, Region.binds .any e = true → e.on < k + i
  | [], k, i, o, _, hi => by simp at hi
  | x :: os, k, 0, o, h, hi => by
    intro e he hb
    simp only [List.getElem?_cons_zero, Option.some.injEq] at hi
    subst hi
    simp only [edgesB, Bool.and_eq_true, List.all_eq_true, Bool.or_eq_true, Bool.not_eq_true', Nat.blt_eq] at h
    rcases h.1 e he with h1 | h1
    · rw [h1] at hb; cases hb
    · omega
  | x :: os, k, i + 1, o, h, hi => by
    intro e he hb
    simp only [edgesB, Bool.and_eq_true] at h
    have := edgesB_spec (k := k + 1) (i := i) h.2 (by simpa using hi) e he hb
    omega
theorem popL_is : ∀ {all pre : List Oper} {L : Oper}, popL all = some (pre, L) → all = pre ++ [L]
  | [], _, _, h => by cases h
  | [o], pre, L, h => by
    simp only [popL, Option.some.injEq, Prod.mk.injEq] at h
    obtain ⟨rfl, rfl⟩ := h
    rfl
  | o :: o' :: os, pre, L, h => by
    simp only [popL] at h
    split at h
    · rename_i pre' L' h'
      injection h with h
      injection h with h1 h2
      subst h1; subst h2
      rw [popL_is (all := o' :: os) h']
      rfl
    · cases h
theorem lastCall_is {all pre : List Oper} {L : Oper} (h : lastCall all = some (pre, L)) : all = pre ++ [L] ∧ okLast pre L = true := by
  unfold lastCall at h
  split at h
  · rename_i pre' L' hp
    obtain ⟨h1, h⟩ := cond_some h
    injection h with h
    injection h with h2 h3
    subst h2; subst h3
    rw [Bool.and_eq_true] at h1
    exact ⟨popL_is hp, h1.2⟩
  · cases h
def lastQ (K : Act → World → Prop) (Q : Exit → Act → World → Prop) : Exit → Act → World → Prop
  | .normal, a, w => K a w
  | e, a, w => Q e a w
theorem wp_lastQ {F : Fence} {n : Nat} {o : Oper} {a : Act} {w : World} {K K0 : Act → World → Prop} {Q : Exit → Act → World → Prop} (h : o.wpIn F n P a w K (lastQ K0 Q)) : o.wpIn F n P a w K Q := by
  unfold Oper.wpIn at h ⊢
  refine ⟨h.1, ?_⟩
  have h := h.2
  generalize (o.semAt F.round a.eval).run P w = r at *
  cases r with
  | ok x w' =>
    cases x <;> simp only [Oper.uponIn] at h ⊢ <;>
      first
        | exact h
        | exact ⟨h.1, CallsIn.mono h.2 (fun e w'' he => by cases e <;> exact he)⟩
        | exact ⟨h.1, RoundIn.mono h.2 (fun e w'' he => by cases e <;> exact he)⟩
  | halt x w' => cases x <;> simp only [Oper.uponIn] at h ⊢ <;> exact h
theorem push_getD (l : Array Bool) (j : Nat) : (l.push false).getD j false = l.getD j false := by
  simp only [Array.getD_eq_getD_getElem?, Array.getElem?_push]
  split
  · rename_i h
    subst h
    rw [Array.getElem?_eq_none (Nat.le_refl _)]
    rfl
  · rfl
theorem any_last {F : Fence} {n : Nat} {pre : Array Oper} {L : Oper} {Q : Exit → Act → World → Prop} (hL : okLast pre.toList L = true) : ∀ (fuel : Nat) (listed : Array Bool) (a : Act) (w : World), listed.size = pre.size → ClosedL pre.toList (fun j => listed.getD j false) →
    wpAnyIn F n P .any pre (lastQ (wpListIn F n P (pre.push L) Q [L]) Q) fuel listed a w → wpAnyIn F n P .any (pre.push L) Q (fuel + 1) (listed.push false) a w := by
  unfold okLast at hL
  simp only [Bool.and_eq_true, List.all_eq_true, List.mem_range, Bool.or_eq_true, Bool.not_eq_true', Nat.blt_eq, Array.length_toList] at hL
  obtain ⟨hcov, hedge, hLe, hgd⟩ := hL
  have old : ∀ i, i < pre.size → (pre.push L)[i]? = pre[i]? := fun i hi => by rw [Array.getElem?_push, if_neg (by omega)]
  have new : (pre.push L)[pre.size]? = some L := by rw [Array.getElem?_push, if_pos rfl]
  have atP : ∀ i, i < pre.size → pre[i]? = some pre[i]! := fun i hi => by rw [Array.getElem?_eq_getElem hi, getElem!_pos pre i hi]
  -- an old one is ready just if it was
  have rdOld : ∀ (listed : Array Bool), listed.size = pre.size → ∀ i, i < pre.size → (i ∈ Region.ready .any (pre.push L) (listed.push false) ↔ i ∈ Region.ready .any pre listed) := by
    intro listed hsz i hi
    unfold Region.ready
    rw [List.mem_filter, List.mem_filter, List.mem_range, List.mem_range, old i hi, Array.size_push]
    have h1 : (listed.push false).getD i true = listed.getD i true := by
      simp only [Array.getD_eq_getD_getElem?, Array.getElem?_push]
      rw [if_neg (by omega)]
    rw [h1]
    simp only [push_getD]
    constructor
    · rintro ⟨_, h⟩; exact ⟨hi, h⟩
    · rintro ⟨_, h⟩; exact ⟨by omega, h⟩
  -- where none is ready, all are listed
  have full : ∀ (listed : Array Bool), listed.size = pre.size → Region.ready .any pre listed = [] → ∀ i, i < pre.size → listed.getD i false = true := by
    intro listed hsz hr i
    induction i using Nat.strongRecOn with
    | _ i ih =>
      intro hi
      cases hl : listed.getD i false with
      | true => rfl
      | false =>
        exfalso
        have hmem : i ∈ Region.ready .any pre listed := by
          unfold Region.ready
          rw [List.mem_filter]
          refine ⟨List.mem_range.2 hi, ?_⟩
          have h1 : listed.getD i true = false := by
            rw [Array.getD_eq_getD_getElem?, Array.getElem?_eq_getElem (by omega)] at hl ⊢
            exact hl
          rw [h1, Array.getElem?_eq_getElem hi]
          simp only [Bool.not_false, Bool.true_and, Option.map_some, Option.getD_some, Array.all_eq_true']
          intro e he
          cases hb : Region.binds .any e with
          | false => rfl
          | true =>
            have hlt := edgesB_spec (k := 0) (i := i) (o := pre[i]) hedge (by rw [Array.getElem?_toList]; exact Array.getElem?_eq_getElem hi) e (by simpa using he) hb
            rw [Nat.zero_add] at hlt
            simpa using ih e.on hlt (by omega)
        rw [hr] at hmem
        cases hmem
  -- where all old ones are listed, the new one is ready
  have rdNew : ∀ (listed : Array Bool), listed.size = pre.size → (∀ i, i < pre.size → listed.getD i false = true) → pre.size ∈ Region.ready .any (pre.push L) (listed.push false) := by
    intro listed hsz hf
    unfold Region.ready
    rw [List.mem_filter, List.mem_range, Array.size_push, new]
    refine ⟨by omega, ?_⟩
    have h1 : (listed.push false).getD pre.size true = false := by
      simp only [Array.getD_eq_getD_getElem?, Array.getElem?_push]
      rw [if_pos hsz.symm]; rfl
    rw [h1]
    simp only [Bool.not_false, Bool.true_and, Option.map_some, Option.getD_some, Array.all_eq_true', push_getD]
    intro e he
    cases hb : Region.binds .any e with
    | false => rfl
    | true =>
      rcases hLe e (by simpa using he) with h | h
      · rw [h] at hb; cases hb
      · simpa using hf e.on h
  -- and the other way round
  have newRd : ∀ (listed : Array Bool), listed.size = pre.size → ClosedL pre.toList (fun j => listed.getD j false) → pre.size ∈ Region.ready .any (pre.push L) (listed.push false) → ∀ i, i < pre.size → listed.getD i false = true := by
    intro listed hsz hcl hr i hi
    unfold Region.ready at hr
    rw [List.mem_filter, new] at hr
    have hr := hr.2
    simp only [Option.map_some, Option.getD_some, Bool.and_eq_true, Array.all_eq_true', push_getD] at hr
    refine closeM_spec hcl pre.size _ (fun j hj => ?_) i (hcov i hi)
    obtain ⟨e, h1, h2, rfl⟩ := direct_spec hj
    have := hr.2 e (by simpa using h1)
    rw [h2] at this
    simpa using this
  -- a step of an old one
  have stepOld : ∀ (i : Nat) (K : Act → World → Prop) (a : Act) (w : World), i < pre.size → wpOpIn F n P pre (lastQ (wpListIn F n P (pre.push L) Q [L]) Q) i K a w → wpOpIn F n P (pre.push L) Q i K a w := by
    intro i K a w hi h
    unfold wpOpIn at h ⊢
    rw [old i hi]
    rw [Array.getElem?_eq_getElem hi] at h ⊢
    simp only at h ⊢
    have hg : Region.wanted pre[i] (yielded (pre.push L) a.tmps) = Region.wanted pre[i] (yielded pre a.tmps) := by
      unfold Region.wanted
      split
      · rfl
      · rename_i j want hgu
        have := hgd pre[i] (by simp)
        rw [hgu] at this
        simp only [Nat.blt_eq] at this
        unfold yielded
        rw [old j this]
    rw [hg]
    split
    · rename_i hw; simp only [hw, if_true] at h; exact wp_lastQ h
    · rename_i hw; simp only [hw] at h; exact h
  -- the step of the new one
  have stepNew : ∀ (fuel : Nat) (listed : Array Bool) (a : Act) (w : World), listed.size = pre.size → (∀ i, i < pre.size → listed.getD i false = true) → wpListIn F n P (pre.push L) Q [L] a w → wpOpIn F n P (pre.push L) Q pre.size (wpAnyIn F n P .any (pre.push L) Q fuel ((listed.push false).setIfInBounds pre.size true)) a w := by
    intro fuel listed a w hsz hf h
    have hnil : Region.ready .any (pre.push L) ((listed.push false).setIfInBounds pre.size true) = [] := by
      unfold Region.ready
      rw [List.filter_eq_nil_iff]
      intro i hi hb
      rw [List.mem_range, Array.size_push] at hi
      rw [Bool.and_eq_true] at hb
      have hb := hb.1
      have : ((listed.push false).setIfInBounds pre.size true).getD i true = true := by
        simp only [Array.getD_eq_getD_getElem?, Array.getElem?_setIfInBounds, Array.getElem?_push, Array.size_push]
        by_cases hip : pre.size = i
        · rw [if_pos hip, if_pos (by omega)]; rfl
        · rw [if_neg hip, if_neg (by omega)]
          have := hf i (by omega)
          rw [Array.getD_eq_getD_getElem?, Array.getElem?_eq_getElem (by omega)] at this
          rw [Array.getElem?_eq_getElem (by omega)]
          simpa using this
      rw [this] at hb
      cases hb
    have hend : ∀ a w, Q .normal a w → wpAnyIn F n P .any (pre.push L) Q fuel ((listed.push false).setIfInBounds pre.size true) a w := by
      intro a w hq
      cases fuel with
      | zero => exact ⟨hnil, hq⟩
      | succ k => exact ⟨fun _ => hq, fun i hi => by rw [hnil] at hi; cases hi⟩
    unfold wpOpIn
    rw [new]
    unfold wpListIn at h
    simp only
    split
    · rename_i hw; simp only [hw, if_true] at h; exact Oper.wpIn_mono (fun a w hq => hend a w hq) h
    · rename_i hw; simp only [hw] at h; exact ⟨h.1, hend _ _ h.2⟩
  intro fuel
  induction fuel with
  | zero =>
    intro listed a w hsz hcl h
    obtain ⟨hnil, hq⟩ := h
    have hf := full listed hsz hnil
    refine ⟨fun h0 => (by have := rdNew listed hsz hf; rw [h0] at this; cases this), fun i hi => ?_⟩
    by_cases hip : i < pre.size
    · have := (rdOld listed hsz i hip).1 hi
      rw [hnil] at this; cases this
    · have : i = pre.size := by
        unfold Region.ready at hi
        rw [List.mem_filter, List.mem_range, Array.size_push] at hi
        omega
      subst this
      exact stepNew 0 listed a w hsz hf hq
  | succ fuel ih =>
    intro listed a w hsz hcl h
    obtain ⟨hq, hst⟩ := h
    refine ⟨fun h0 => ?_, fun i hi => ?_⟩
    · have hnil : Region.ready .any pre listed = [] := by
        cases hr : Region.ready .any pre listed with
        | nil => rfl
        | cons x xs =>
          have hx : x ∈ Region.ready .any pre listed := by rw [hr]; exact List.mem_cons_self
          have hlt : x < pre.size := by
            unfold Region.ready at hx
            rw [List.mem_filter, List.mem_range] at hx
            exact hx.1
          have := (rdOld listed hsz x hlt).2 hx
          rw [h0] at this; cases this
      have := rdNew listed hsz (full listed hsz hnil)
      rw [h0] at this; cases this
    · by_cases hip : i < pre.size
      · have hi' := (rdOld listed hsz i hip).1 hi
        have h1 := stepOld i _ a w hip (hst i hi')
        have e : (listed.push false).setIfInBounds i true = (listed.setIfInBounds i true).push false := by
          apply Array.ext_getElem?
          intro j
          simp only [Array.getElem?_setIfInBounds, Array.getElem?_push, Array.size_push, Array.size_setIfInBounds]
          by_cases hij : i = j
          · subst hij
            rw [if_pos rfl, if_pos (by omega), if_neg (by omega), if_pos rfl, if_pos (by omega)]
          · rw [if_neg hij, if_neg hij]
        rw [e]
        refine wpOpIn_mono (fun a w hk => ih (listed.setIfInBounds i true) a w (by simp [hsz]) ?_ hk) h1
        -- still closed
        have hset : ∀ j, (listed.setIfInBounds i true).getD j false = (i == j || listed.getD j false) := by
          intro j
          simp only [Array.getD_eq_getD_getElem?, Array.getElem?_setIfInBounds]
          by_cases hij : i = j
          · subst hij
            rw [if_pos rfl, if_pos (by omega)]
            simp
          · rw [if_neg hij]
            simp [hij]
        intro j o ho hj e he hb
        simp only [hset, Bool.or_eq_true, beq_iff_eq] at hj ⊢
        rcases hj with rfl | hj
        · unfold Region.ready at hi'
          rw [List.mem_filter, Bool.and_eq_true] at hi'
          have h2 := hi'.2.2
          rw [Array.getElem?_toList] at ho
          rw [ho] at h2
          simp only [Option.map_some, Option.getD_some, Array.all_eq_true'] at h2
          have h3 := h2 e (by simpa using he)
          rw [hb] at h3
          exact .inr (by simpa using h3)
        · exact .inr (hcl j o ho hj e he hb)
      · have : i = pre.size := by
          unfold Region.ready at hi
          rw [List.mem_filter, List.mem_range, Array.size_push] at hi
          omega
        subst this
        have hf := newRd listed hsz hcl hi
        have hnil : Region.ready .any pre listed = [] := by
          unfold Region.ready
          rw [List.filter_eq_nil_iff]
          intro j hj hb
          rw [List.mem_range] at hj
          rw [Bool.and_eq_true] at hb
          have h1 := hf j hj
          rw [Array.getD_eq_getD_getElem?, Array.getElem?_eq_getElem (by omega)] at h1
          have hb := hb.1
          rw [Array.getD_eq_getD_getElem?, Array.getElem?_eq_getElem (by omega)] at hb
          simp only [Option.getD_some] at h1 hb
          rw [h1] at hb; cases hb
        exact stepNew (fuel + 1) listed a w hsz hf (hq hnil)
theorem region_last {F : Fence} {n id : Nat} {pre : List Oper} {L : Oper} {all : Array Oper} {Q : Exit → Act → World → Prop} (hm : P.follows .mixedOrders = true) (ha : all.toList = pre ++ [L]) (hL : okLast pre L = true) {a : Act} {w : World}
    (h : wpAnyIn F n P .any pre.toArray (lastQ (wpListIn F n P all Q [L]) Q) pre.toArray.size (Array.replicate pre.toArray.size false) a { w with drawn := w.drawn + 1 }) : (Code.region id all true).wpIn F n P Q a w := by
  have e : all = pre.toArray.push L := by
    apply Array.toList_inj.1
    rw [ha]; simp
  subst e
  refine wpIn_region_any hm ?_
  have hc : ClosedL pre.toArray.toList (fun j => (Array.replicate pre.toArray.size false).getD j false) := by
    intro i o _ hi
    simp only [Array.getD_eq_getD_getElem?, Array.getElem?_replicate] at hi
    split at hi <;> cases hi
  have := any_last (P := P) (F := F) (n := n) (pre := pre.toArray) (L := L) (Q := Q) (by simpa using hL) pre.toArray.size (Array.replicate pre.toArray.size false) a _ (by simp) hc h
  have e2 : (Array.replicate pre.toArray.size false).push false = Array.replicate (pre.toArray.push L).size false := by
    rw [Array.size_push, ← Array.replicate_succ]
  rw [e2] at this
  have e3 : (pre.toArray.push L).size = pre.toArray.size + 1 := Array.size_push ..
  rw [e3]
  rw [e3] at this
  exact this
theorem evDraw_wp {ro : Option Nat} {h : Hs} (hok : CallsOK P h) (hm : P.follows .mixedOrders = true) {lo nt id : Nat} {all : Array Oper} (hall : ∀ o ∈ all.toList, ∀ d, o.dst = some d → d < nt) {Q : Exit → Act → World → Prop} {st st' : St} {a : Act} {c : Cf}
    (he : evDraw P h all.toList st = some st') (hr : SR h.G lo nt c st a) (hQ : ∀ a' c', Ext c st.n c' → st.n ≤ st'.n → SR h.G lo nt c' st' a' → Q .normal a' c'.w) : (Code.region id all true).wpIn (Fe ro) 3 P Q a c.w := by
  unfold evDraw at he
  split at he
  · rename_i pre L hl
    obtain ⟨ha, hL⟩ := lastCall_is hl
    split at he
    · rename_i st1 h1
      refine region_last hm ha hL ?_
      refine evDraw0_any hok (all := pre.toArray) (fun o ho d hd => hall o (by rw [ha]; exact List.mem_append_left _ (by simpa using ho)) d hd) (st := st) (st' := st1) (by simpa using h1) hr fun a1 c1 hx1 hn1 hr1 => ?_
      show wpListIn (Fe ro) 3 P all Q [L] a1 c1.w
      unfold wpListIn
      exact evOper_wp hok hall (by rw [ha]; simp) he hr1 fun v c' hx hn hr' => hQ _ _ (hx1.trans hx hn1) (Nat.le_trans hn1 hn) hr'
    · cases he
  · exact wpIn_region_any hm (evDraw0_any hok hall he hr hQ)
end Go.Fw
end
