/- Readings of arguments, as plain data: numbers, texts, and structs of them. By this session. -/
import Derived.Test.YtloambokbipnjaaGg
import Derived.ChangeSame
import Derived.ChangeArms
import Derived.Below
set_option linter.unusedVariables false
set_option linter.unusedSimpArgs false
namespace Go.Fw
variable {P : Program}

def tiles (P : Program) (total : Nat) : Nat → List Field → Bool
  | off, [] => off == total
  | off, f :: fs => f.offset == off && tiles P total (off + P.cellsOf f.type) fs
def plainT (P : Program) : Nat → TypeId → Bool
  | 0, _ => false
  | k + 1, t => match P.underlying t with
    | some .bool => P.cellsOf t == 1
    | some (.int _) => P.cellsOf t == 1
    | some .string => P.cellsOf t == 1
    | some (.struct fs) => tiles P (P.cellsOf t) 0 fs.toList && fs.toList.all fun f => plainT P k f.type
    | _ => false
/-- cells of a type, as they may be -/
def tyC (P : Program) : Nat → TypeId → List D → Bool
  | 0, _, _ => false
  | k + 1, t, ds => match P.underlying t, ds with
    | some .bool, [.b _] => true
    | some (.int k'), [.i k'' n] => decide (k' = k'') && (Lit.int k'' n).wf
    | some .string, [.s s] => Nat.ble s.size maxLen
    | some (.struct fs), ds => fs.toList.all fun f => tyC P k f.type ((ds.drop f.offset).take (P.cellsOf f.type))
    | _, _ => false

section
variable {H : Type} {enc : TypeId × Value → H} {w : World} {base : Nat} {spare : Nat → Bool} {held : Bool} (I : Mem)

def RelCs (w : World) (I : Mem) (ds : List D) (cs : List Value) : Prop := ds.length = cs.length ∧ ∀ (j : Nat) (d : D) (v : Value), ds[j]? = some d → cs[j]? = some v → RelD w I d v ∧ v.oneCell' = true

theorem RelCs.one {d : D} {v : Value} (h : RelD w I d v) (h1 : v.oneCell' = true) : RelCs w I [d] [v] := by
  refine ⟨rfl, fun j d' v' hd hv => ?_⟩
  cases j with
  | zero => simp at hd hv; subst hd; subst hv; exact ⟨h, h1⟩
  | succ j => simp at hd
theorem RelCs.app {ds es : List D} {cs vs : List Value} (h : RelCs w I ds cs) (k : RelCs w I es vs) : RelCs w I (ds ++ es) (cs ++ vs) := by
  refine ⟨by simp [h.1, k.1], fun j d v hd hv => ?_⟩
  by_cases hj : j < ds.length
  · rw [List.getElem?_append_left hj] at hd
    rw [List.getElem?_append_left (by rw [← h.1]; exact hj)] at hv
    exact h.2 j d v hd hv
  · rw [List.getElem?_append_right (by omega)] at hd
    rw [List.getElem?_append_right (by rw [← h.1]; omega), ← h.1] at hv
    exact k.2 _ d v hd hv

theorem fields_of {k n : Nat} {cs : List Value}
    (ih : ∀ (t : TypeId) (cs : List Value) (x : DataW H × List MemPlace), DataW.trod enc P w base spare held n t cs = some x → plainT P k t = true → ∃ ds, tyC P k t ds = true ∧ RelCs w I ds cs ∧ cs.length = P.cellsOf t) :
    ∀ (fs : List Field) (off : Nat), tiles P cs.length off fs = true → (∀ f ∈ fs, plainT P k f.type = true) → (∀ f ∈ fs, ∃ x, DataW.trod enc P w base spare held n f.type ((cs.drop f.offset).take (P.cellsOf f.type)) = some x) →
    ∃ ds, RelCs w I ds (cs.drop off) ∧ off + ds.length = cs.length ∧ ∀ f ∈ fs, off ≤ f.offset ∧ tyC P k f.type ((ds.drop (f.offset - off)).take (P.cellsOf f.type)) = true
  | [], off, ht, _, _ => by
    simp only [tiles, beq_iff_eq] at ht
    subst ht
    exact ⟨[], ⟨by simp, fun j d v hd => by simp at hd⟩, by simp, by simp⟩
  | f :: fs, off, ht, hp, hx => by
    simp only [tiles, Bool.and_eq_true, beq_iff_eq] at ht
    obtain ⟨ho, ht⟩ := ht
    obtain ⟨ds, h1, h2, h3⟩ := fields_of ih fs _ ht (fun g hg => hp g (List.mem_cons_of_mem _ hg)) (fun g hg => hx g (List.mem_cons_of_mem _ hg))
    obtain ⟨x, hx0⟩ := hx f List.mem_cons_self
    obtain ⟨es, g1, g2, g3⟩ := ih _ _ _ hx0 (hp f List.mem_cons_self)
    rw [ho] at g2 g3
    have el : es.length = P.cellsOf f.type := by rw [g2.1, g3]
    refine ⟨es ++ ds, ?_, by rw [List.length_append, el]; omega, fun g hg => ?_⟩
    · have e : cs.drop off = (cs.drop off).take (P.cellsOf f.type) ++ cs.drop (off + P.cellsOf f.type) := by
        rw [← List.drop_drop, List.take_append_drop]
      rw [e]
      exact g2.app I h1
    · rcases List.mem_cons.1 hg with rfl | hg
      · refine ⟨by omega, ?_⟩
        rw [ho, Nat.sub_self, List.drop_zero, List.take_append_of_le_length (by omega), List.take_of_length_le (by omega)]
        exact g1
      · obtain ⟨k1, k2⟩ := h3 g hg
        refine ⟨by omega, ?_⟩
        rw [show g.offset - off = es.length + (g.offset - (off + P.cellsOf f.type)) by omega, List.drop_append, List.drop_eq_nil_of_le (by omega), List.nil_append,
          show es.length + (g.offset - (off + P.cellsOf f.type)) - es.length = g.offset - (off + P.cellsOf f.type) by omega]
        exact k2

theorem cells_of : ∀ (n k : Nat) (t : TypeId) (cs : List Value) (x : DataW H × List MemPlace), DataW.trod enc P w base spare held n t cs = some x → plainT P k t = true → ∃ ds, tyC P k t ds = true ∧ RelCs w I ds cs ∧ cs.length = P.cellsOf t := by
  intro n
  induction n with
  | zero => intro k t cs x h _; simp [DataW.trod] at h
  | succ n ih =>
    intro k t cs x h hp
    cases k with
    | zero => cases hp
    | succ k =>
      simp only [plainT] at hp
      split at hp
      · rename_i hu
        obtain ⟨b, rfl, _⟩ := DataW.trod_bool hu h
        exact ⟨[.b b], by simp only [tyC, hu], .one I (.b b) rfl, by simpa using (beq_iff_eq.1 hp).symm⟩
      · rename_i ki hu
        obtain ⟨m, rfl, _, hw⟩ := DataW.trod_int hu h
        exact ⟨[.i ki m], by simp only [tyC, hu, hw, decide_true, Bool.and_self], .one I (.i ki m) rfl, by simpa using (beq_iff_eq.1 hp).symm⟩
      · rename_i hu
        obtain ⟨s, rfl, _, hw⟩ := DataW.trod_string hu h
        exact ⟨[.s s], by simp only [tyC, hu]; exact Nat.ble_eq_true_of_le hw, .one I (.s s) rfl, by simpa using (beq_iff_eq.1 hp).symm⟩
      · rename_i fs hu
        rw [Bool.and_eq_true, List.all_eq_true] at hp
        obtain ⟨xs, m, hm, _, hl, hlen, hf⟩ := DataW.trod_struct hu h
        have hmn : m = n := by omega
        subst hmn
        obtain ⟨ds, h1, h2, h3⟩ := fields_of (P := P) I (k := k) (cs := cs) (fun t cs x hx hpl => ih k t cs x hx hpl) fs.toList 0 (by rw [hl]; exact hp.1) hp.2 (fun f hf' => by
          obtain ⟨i, hi⟩ := List.getElem?_of_mem hf'
          rw [Array.getElem?_toList] at hi
          have hlt : i < xs.length := by rw [hlen]; exact (Array.getElem?_eq_some_iff.1 hi).1
          exact ⟨xs[i], by rw [hf i f hi, List.getElem?_eq_getElem hlt]⟩)
        refine ⟨ds, ?_, by simpa using h1, hl⟩
        simp only [tyC, hu, List.all_eq_true]
        intro f hf'
        simpa using (h3 f hf').2
      · cases hp
end
theorem ty_string {k : Nat} {t : TypeId} {x : D} (ht : P.underlying t = some .string) (h : tyC P (k + 1) t [x] = true) : ∃ s, x = .s s ∧ s.size ≤ maxLen := by
  simp only [tyC, ht] at h
  cases x <;> first | (simp at h; done) | skip
  exact ⟨_, rfl, Nat.le_of_ble_eq_true h⟩
theorem ty_bool {k : Nat} {t : TypeId} {x : D} (ht : P.underlying t = some .bool) (h : tyC P (k + 1) t [x] = true) : ∃ b, x = .b b := by
  simp only [tyC, ht] at h
  cases x <;> first | (simp at h; done) | skip
  exact ⟨_, rfl⟩
theorem ty_int {k : Nat} {t : TypeId} {x : D} {ki : IntKind} (ht : P.underlying t = some (.int ki)) (h : tyC P (k + 1) t [x] = true) : ∃ n, x = .i ki n ∧ (Lit.int ki n).wf = true := by
  simp only [tyC, ht] at h
  cases x <;> first | (simp at h; done) | skip
  simp only [Bool.and_eq_true, decide_eq_true_eq] at h
  obtain ⟨rfl, h⟩ := h
  exact ⟨_, rfl, h⟩
/-- cells that stand for a struct's are the struct's -/
theorem RelCs.agg {w : World} {I : Mem} {ds : List D} {cs : Array Value} (h : RelCs w I ds cs.toList) : RelD w I (.ag ds) (.agg cs) := by
  refine .ag ds cs (by rw [h.1, Array.length_toList]) (fun j hj => ?_) (fun j d hd => ?_)
  · have hj' : j < cs.size := by rw [h.1, Array.length_toList] at hj; exact hj
    have := (h.2 j _ _ (List.getElem?_eq_getElem hj) (by rw [Array.getElem?_toList, Array.getElem?_eq_getElem hj'])).2
    simpa [Array.getD_eq_getD_getElem?, Array.getElem?_eq_getElem hj'] using this
  · have hj := (List.getElem?_eq_some_iff.1 hd).1
    have hj' : j < cs.size := by rw [h.1, Array.length_toList] at hj; exact hj
    have := (h.2 j d _ hd (by rw [Array.getElem?_toList, Array.getElem?_eq_getElem hj'])).1
    simpa [Array.getD_eq_getD_getElem?, Array.getElem?_eq_getElem hj'] using this
/-- a call that is told, as it is asked for at the top -/
theorem top_call {G : Nat → Option (List D)} {g : FuncId} {ds : List D} {r : D} (h : PCall P G g ds r) {W : World} (hG : Glob ⟨W, fun b => b < W.heap.size, fun _ => False, fun _ => 0, G⟩) {vs : Array Value} (hsz : vs.size = ds.length)
    (hv : ∀ (j : Nat) (d : D), ds[j]? = some d → RelD W (fun b => b < W.heap.size) d (vs.getD j undef)) : Calls P g vs W fun e W' => (∃ v I', e = .returned v ∧ RelX W' I' (fun _ => False) r v) ∧ Go.RowKit.Below W.heap.size W W' := by
  refine (h W (fun b => b < W.heap.size) (fun _ => False) vs hG (fun _ h => h) (fun _ h => h.elim) (fun _ _ h => h) hsz hv).mono ?_
  rintro e w' ⟨v, I', he, h1, h2, h3, h4, h5, h6, h7, h8, h9⟩
  exact ⟨⟨v, I', he, h9⟩, h6, h7, h8, h1, fun k hk => (h2 k hk).2⟩
theorem glob_none {W : World} {I K : Mem} {bk : Nat → Nat} : Glob ⟨W, I, K, bk, fun _ => none⟩ := fun g cs h => by cases h
end Go.Fw
