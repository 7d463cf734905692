/- Part 4 of what the proof of this statement stands on: Two states are the same just if their pairs are, where both may be; the code and the document say the same of any two states. -/
import Derived.ChangeSame
import Derived.ChangeArms
import Derived.ChangeSlices
import Derived.Below
import Derived.Deep.Slices
import Derived.Lib.LaidTab
import Derived.Lib.ItoaNum
import Derived.Sort.Grow
import Derived.LaidLaws
import Derived.MakeChecks
import Derived.Stop.LaidErr
import Derived.WalkKit
import Derived.ProofKit
import Derived.OpenShut
import Derived.ShutString
import Derived.ChangeOld
import Derived.Carry
import Derived.SizedLaws
import Derived.Test.YtopoklifappmcaaGreatDoorProg
import Derived.KernelRfl
import Derived.Laws.Externs
import Derived.Lib.Bytealg
import Derived.Laws.Strings
import Derived.Lib.ParseIntB
import Derived.Laws.RangeString
import Derived.Shelf.Strconv.Itoa1
import Derived.Shelf.Strconv.Itoa2
import Derived.Shelf.LaysM
import Derived.Lib.Walk
import Derived.Lib.ItoaMem
import Derived.BigCall
import Derived.BigGuard
import Derived.Deep.Draws
import Derived.Shelf.Pu.ParseUintPublic10
import Derived.Shelf.Pu.ErrVarParseUint
import Derived.Shelf.Strconv.ErrVarAll
import Derived.Shelf.Strings.Repeat
import Derived.Shelf.Strconv.Itoa3
import Derived.Test.YtopoklifappmcaaGreatDoorKShelfSame3
section
set_option linter.unusedVariables false
set_option linter.unusedSimpArgs false
namespace Go.Fw
variable {P : Program}

mutual
def okTy (P : Program) : Nat → TypeId → Ty → Bool
  | 0, _, _ => false
  | n + 1, t, T => match P.underlying t, T with
    | some .bool, .b => P.cellsOf t == 1
    | some (.int k), .i k' => decide (k = k') && P.cellsOf t == 1
    | some .string, .s => P.cellsOf t == 1
    | some (.slice e), .l T => P.cellsOf t == 1 && (okTy P n e T && (P.cellsOf e == T.w && Nat.blt 0 T.w))
    | some (.struct fs), .g T => okFs P n (P.cellsOf t) fs.toList 0 T
    | _, _ => false
def okFs (P : Program) : Nat → Nat → List Field → Nat → Ty → Bool
  | _, total, [], off, .u => off == total
  | 0, _, _, _, _ => false
  | n + 1, total, f :: fs, off, T => match fs, T with
    | [], T => f.offset == off && (okTy P n f.type T && (P.cellsOf f.type == T.w && off + T.w == total))
    | f' :: fs', .p a c => f.offset == off && (okTy P n f.type a && (P.cellsOf f.type == a.w && okFs P n total (f' :: fs') (off + a.w) c))
    | _, _ => false
  | _, _, _, _, _ => false
end
def Ty.fit : (T : Ty) → T.den → Prop
  | .b, _ => True
  | .s, x => x.size ≤ maxLen
  | .u, _ => True
  | .e, _ => True
  | .i k, n => (Lit.int k n).wf = true
  | .p a c, x => a.fit x.1 ∧ c.fit x.2
  | .g t, x => t.fit x
  | .l t, xs => xs.length ≤ maxLen ∧ ∀ x ∈ xs, t.fit x

def RelCs (w : World) (I : Mem) (ds : List D) (cs : List Value) : Prop := ds.length = cs.length ∧ ∀ (j : Nat) (d : D) (v : Value), ds[j]? = some d → cs[j]? = some v → RelD w I d v ∧ v.oneCell' = true
section
variable {H : Type} {enc : TypeId × Value → H} {w : World} {base : Nat} {spare : Nat → Bool} {held : Bool} {I : Mem}
theorem RelCs.one {d : D} {v : Value} (h : RelD w I d v) (h1 : v.oneCell' = true) : RelCs w I [d] [v] := by
  refine ⟨rfl, fun j d' v' hd hv => ?_⟩
  cases j with
  | zero => simp at hd hv; subst hd; subst hv; exact ⟨h, h1⟩
  | succ j => simp at hd
theorem RelCs.app {ds es : List D} {cs vs : List Value} (h : RelCs w I ds cs) (k : RelCs w I es vs) : RelCs w I (ds ++ es) (cs ++ vs) := by
  refine ⟨by simp [h.1, k.1], fun j d v hd hv => ?_⟩
  by_cases hj : j < ds.length
  · rw [List.getElem?_append_left hj] at hd
    rw [List.getElem?_append_left (by rw [← h.1]; exact hj)] at hv
    exact h.2 j d v hd hv
  · rw [List.getElem?_append_right (by omega)] at hd
    rw [List.getElem?_append_right (by rw [← h.1]; omega), ← h.1] at hv
    exact k.2 _ d v hd hv
theorem Ty.cells_len : ∀ (T : Ty) (x : T.den), (T.cells x).length = T.w
  | .b, _ => rfl
  | .s, _ => rfl
  | .u, _ => rfl
  | .e, _ => rfl
  | .i _, _ => rfl
  | .p a c, x => by simp only [Ty.cells, Ty.w, List.length_append, Ty.cells_len a, Ty.cells_len c]
  | .g t, x => Ty.cells_len t x
  | .l _, _ => rfl
theorem Ty.elt_width : ∀ (T : Ty) (x : T.den), (T.elt x).width = T.w
  | .b, _ => rfl
  | .s, _ => rfl
  | .u, _ => rfl
  | .e, _ => rfl
  | .i _, _ => rfl
  | .p a c, x => by simp only [Ty.elt, D.width, D.cells, List.length_append, Ty.cells_len, Ty.w]
  | .g t, x => Ty.cells_len t x
  | .l _, _ => rfl
theorem Ty.elt_cells : ∀ (T : Ty) (x : T.den), (T.elt x).cells = T.cells x
  | .b, _ => rfl
  | .s, _ => rfl
  | .u, _ => rfl
  | .e, _ => rfl
  | .i _, _ => rfl
  | .p _ _, _ => rfl
  | .g _, _ => rfl
  | .l _, _ => rfl
theorem list_of {α : Type} {n : Nat} {p : Nat → α → Prop} (h : ∀ i, i < n → ∃ x, p i x) : ∃ l : List α, l.length = n ∧ ∀ (i : Nat) (x : α), l[i]? = some x → p i x := by
  induction n with
  | zero => exact ⟨[], rfl, by simp⟩
  | succ n ih =>
    obtain ⟨l, h1, h2⟩ := ih fun i hi => h i (by omega)
    obtain ⟨x, hx⟩ := h n (by omega)
    refine ⟨l ++ [x], by simp [h1], fun i y hy => ?_⟩
    by_cases hi : i < l.length
    · rw [List.getElem?_append_left hi] at hy; exact h2 i y hy
    · rw [List.getElem?_append_right (by omega)] at hy
      have : i = n := by
        have := (List.getElem?_eq_some_iff.1 hy).1
        simp at this; omega
      subst this
      simp [h1] at hy
      subst hy; exact hx

theorem cells_some {a : Addr} {n : Nat} {cs : List Value} (h : w.cells? base a n = some cs) : cs.length = n ∧ ∀ (i : Nat) (v : Value), cs[i]? = some v → w.cell? (a.add i) = some v := by
  unfold World.cells? at h
  split at h
  · have h1 := mapM_some_length h
    refine ⟨by simpa using h1, fun i v hv => ?_⟩
    have hi := (List.getElem?_eq_some_iff.1 hv).1
    have hi' : i < n := by simp at h1; omega
    have h2 := mapM_some_get h i i (by simp [hi'])
    rw [h2]; exact hv
  · cases h
theorem cell_some {a : Addr} {v : Value} (h : w.cell? a = some v) : a.spot = none ∧ ∃ cs e fz, w.heap[a.block]? = some (.cells cs e fz) ∧ cs[a.off]? = some v := by
  unfold World.cell? at h
  split at h
  · rename_i cs e fz hb
    split at h
    · cases h
    · rename_i hs
      exact ⟨by simpa using hs, cs, e, fz, hb, h⟩
  · cases h
theorem add_block (a : Addr) (i : Nat) : (a.add i).block = a.block := by unfold Addr.add; split <;> rfl
theorem add_off (a : Addr) (i : Nat) : (a.add i).off = a.off + i := by
  unfold Addr.add
  split
  · rename_i h; rw [h]; rfl
  · rfl
theorem slice_rel {a : Addr} {len cap c : Nat} {T : Ty} (hc : c = T.w) (hw : 0 < T.w) (hcap : len ≤ cap) {l : List T.den} (hl : l.length = len)
    (h : ∀ (i : Nat) (y : T.den), l[i]? = some y → ∃ cs', w.cells? base (a.add (i * c)) c = some cs' ∧ RelCs w (fun b => b < w.heap.size) (T.cells y) cs') : RelD w (fun b => b < w.heap.size) (.sl T.w (.t T l)) (.slice (some a) len cap) := by
  subst hc
  by_cases h0 : len = 0
  · subst h0
    have : l = [] := List.eq_nil_of_length_eq_zero hl
    subst this
    exact .sl0 _ _ _ _ rfl (fun h => by cases h)
  · -- a cell of each element
    have cell : ∀ (i k : Nat) (y : T.den) (d : D), l[i]? = some y → (T.cells y)[k]? = some d → ∃ v, w.cell? ((a.add (i * T.w)).add k) = some v ∧ RelD w (fun b => b < w.heap.size) d v ∧ v.oneCell' = true := by
      intro i k y d hi hk
      obtain ⟨cs', h1, h2⟩ := h i y hi
      obtain ⟨h3, h4⟩ := cells_some h1
      have hkl := (List.getElem?_eq_some_iff.1 hk).1
      have hkc : k < cs'.length := by rw [← h2.1]; exact hkl
      have hv : cs'[k]? = some cs'[k] := List.getElem?_eq_getElem hkc
      obtain ⟨h5, h6⟩ := h2.2 k d _ hk hv
      exact ⟨_, h4 k _ hv, h5, h6⟩
    have get : ∀ i, i < len → ∃ y, l[i]? = some y := fun i hi => ⟨l[i]'(by omega), List.getElem?_eq_getElem (by omega)⟩
    have getC : ∀ (y : T.den) (k : Nat), k < T.w → ∃ d, (T.cells y)[k]? = some d := fun y k hk => ⟨(T.cells y)[k]'(by rw [Ty.cells_len]; exact hk), List.getElem?_eq_getElem (by rw [Ty.cells_len]; exact hk)⟩
    obtain ⟨y0, hy0⟩ := get 0 (by omega)
    obtain ⟨d0, hd0⟩ := getC y0 0 hw
    obtain ⟨v0, hv0, _, _⟩ := cell 0 0 y0 d0 hy0 hd0
    have e0 : (a.add (0 * T.w)).add 0 = a := by simp [Addr.add]
    rw [e0] at hv0
    obtain ⟨hsp, cs, e, fz, hb, _⟩ := cell_some hv0
    have at' : ∀ (i k : Nat) (y : T.den) (d : D), l[i]? = some y → (T.cells y)[k]? = some d → ∃ v, cs[a.off + i * T.w + k]? = some v ∧ RelD w (fun b => b < w.heap.size) d v ∧ v.oneCell' = true := by
      intro i k y d hi hk
      obtain ⟨v, h1, h2, h3⟩ := cell i k y d hi hk
      obtain ⟨_, cs1, e1, fz1, g1, g2⟩ := cell_some h1
      rw [add_block, add_block, hb] at g1
      injection g1 with g1
      injection g1 with g1
      subst g1
      rw [add_off, add_off] at g2
      exact ⟨v, g2, h2, h3⟩
    have flat : ∀ j, j < len * T.w → ∃ v, cs[a.off + j]? = some v ∧ v.oneCell' = true := by
      intro j hj
      have hq : j / T.w < len := Nat.div_lt_of_lt_mul (by rw [Nat.mul_comm]; exact hj)
      have hr : j % T.w < T.w := Nat.mod_lt _ hw
      obtain ⟨y, hy⟩ := get _ hq
      obtain ⟨d, hd⟩ := getC y _ hr
      obtain ⟨v, h1, _, h3⟩ := at' _ _ y d hy hd
      have : a.off + j / T.w * T.w + j % T.w = a.off + j := by
        have := Nat.div_add_mod j T.w
        rw [Nat.mul_comm] at this; omega
      rw [this] at h1
      exact ⟨v, h1, h3⟩
    have hpos : 0 < len * T.w := Nat.mul_pos (by omega) hw
    have hsz : a.off + len * T.w ≤ cs.size := by
      obtain ⟨v, hv, _⟩ := flat (len * T.w - 1) (by omega)
      have := (Array.getElem?_eq_some_iff.1 hv).1
      omega
    have hx : (Ls.t T l).xs.length = len := by simp [Ls.xs, hl]
    have := RelD.sl (w := w) (I := fun b => b < w.heap.size) T.w (.t T l) a cap cs e fz hsp (Array.getElem?_eq_some_iff.1 hb).1 hb (by rw [hx]; exact hcap) (fun x hx => by
        simp only [Ls.xs, List.mem_map] at hx
        obtain ⟨y, _, rfl⟩ := hx
        exact T.elt_width y) (by rw [hx]; exact hsz) (fun j hj => by
        rw [hx] at hj
        obtain ⟨v, hv, h1⟩ := flat j hj
        rw [Array.getD_eq_getD_getElem?, hv]; exact h1) (fun j k x d hj hk => by
        simp only [Ls.xs, List.getElem?_map] at hj
        obtain ⟨y, hy, rfl⟩ := Option.map_eq_some_iff.1 hj
        rw [Ty.elt_cells] at hk
        obtain ⟨v, h1, h2, _⟩ := at' j k y d hy hk
        rw [Array.getD_eq_getD_getElem?, h1]; exact h2)
    rw [hx] at this
    exact this

theorem read_ty (hI : True) : ∀ (n k : Nat) (t : TypeId) (T : Ty) (cs : List Value) (x : DataW H × List MemPlace), DataW.trod enc P w base spare held n t cs = some x → okTy P k t T = true →
    ∃ y : T.den, T.fit y ∧ RelCs w (fun b => b < w.heap.size) (T.cells y) cs := by
  intro n
  induction n with
  | zero => intro k t T cs x h _; simp [DataW.trod] at h
  | succ n ih =>
    intro k t T cs x h hk
    cases k with
    | zero => simp [okTy] at hk
    | succ k =>
      simp only [okTy] at hk
      split at hk
      · rename_i hu
        obtain ⟨b, rfl, _⟩ := DataW.trod_bool hu h
        exact ⟨b, trivial, .one (.b b) rfl⟩
      · rename_i ki kj hu
        simp only [Bool.and_eq_true, decide_eq_true_eq] at hk
        obtain ⟨rfl, _⟩ := hk
        obtain ⟨m, rfl, _, hw⟩ := DataW.trod_int hu h
        exact ⟨m, hw, .one (.i ki m) rfl⟩
      · rename_i hu
        obtain ⟨s, rfl, _, hw⟩ := DataW.trod_string hu h
        exact ⟨s, hw, .one (.s s) rfl⟩
      · rename_i e T hu
        simp only [Bool.and_eq_true, beq_iff_eq] at hk
        obtain ⟨_, hke, hce, hw0⟩ := hk
        have hw0 : 0 < T.w := by simpa [Nat.blt_eq] using hw0
        rcases DataW.trod_slice hu h with ⟨rfl, _⟩ | ⟨a, len, cap, elems, rest, m, hm, rfl, _, hb, hl, hcm, hlen, hel, _, _⟩
        · exact ⟨([] : List T.den), ⟨Nat.zero_le _, by simp⟩, .one (.sl0 _ _ _ _ rfl (fun _ => rfl)) rfl⟩
        · have hmn : m = n := by omega
          subst hmn
          obtain ⟨l, hll, hp⟩ := list_of (n := len) (p := fun i (y : T.den) => T.fit y ∧ ∃ cs', w.cells? base (a.add (i * P.cellsOf e)) (P.cellsOf e) = some cs' ∧ RelCs w (fun b => b < w.heap.size) (T.cells y) cs') (fun i hi => by
            have h1 := hel i hi
            rw [List.getElem?_eq_getElem (by omega)] at h1
            obtain ⟨cs', h2, h3⟩ := Option.bind_eq_some_iff.1 h1
            obtain ⟨y, h4, h5⟩ := ih k e T cs' _ h3 hke
            exact ⟨y, h4, cs', h2, h5⟩)
          refine ⟨l, ⟨by omega, fun x hx => ?_⟩, .one (slice_rel hce hw0 hl hll fun i y hy => (hp i y hy).2) rfl⟩
          obtain ⟨i, hi⟩ := List.getElem?_of_mem hx
          exact (hp i x hi).1
      · rename_i fs T hu
        obtain ⟨xs, m, hm, _, hl, hlen, hf⟩ := DataW.trod_struct hu h
        have hmn : m = n := by omega
        subst hmn
        obtain ⟨y, h1, h2, _⟩ := fields cs ih fs.toList k 0 T (by rw [hl]; exact hk) (fun f hf' => by
          obtain ⟨i, hi⟩ := List.getElem?_of_mem hf'
          rw [Array.getElem?_toList] at hi
          have hlt : i < xs.length := by rw [hlen]; exact (Array.getElem?_eq_some_iff.1 hi).1
          exact ⟨xs[i], by rw [hf i f hi, List.getElem?_eq_getElem hlt]⟩)
        exact ⟨y, h1, by rw [List.drop_zero] at h2; exact h2⟩
      · cases hk
where
  fields {n : Nat} (cs : List Value) (ih : ∀ (k : Nat) (t : TypeId) (T : Ty) (cs : List Value) (x : DataW H × List MemPlace), DataW.trod enc P w base spare held n t cs = some x → okTy P k t T = true → ∃ y : T.den, T.fit y ∧ RelCs w (fun b => b < w.heap.size) (T.cells y) cs) :
      ∀ (fs : List Field) (k off : Nat) (T : Ty), okFs P k cs.length fs off T = true → (∀ f ∈ fs, ∃ x, DataW.trod enc P w base spare held n f.type ((cs.drop f.offset).take (P.cellsOf f.type)) = some x) →
      ∃ y : T.den, T.fit y ∧ RelCs w (fun b => b < w.heap.size) (T.cells y) (cs.drop off) ∧ off ≤ cs.length
    | [], k, off, T, hk, _ => by
      have h2 : T = .u ∧ off = cs.length := by
        cases k <;> cases T <;> simp [okFs] at hk <;> exact ⟨rfl, hk⟩
      obtain ⟨rfl, h2⟩ := h2
      subst h2
      exact ⟨(), trivial, ⟨by simp [Ty.cells], fun j d v hd => by simp [Ty.cells] at hd⟩, Nat.le_refl _⟩
    | [f], k, off, T, hk, hx => by
      cases k with
      | zero => simp [okFs] at hk
      | succ k =>
        simp only [okFs, Bool.and_eq_true, beq_iff_eq] at hk
        obtain ⟨ho, hkt, hc, ht⟩ := hk
        obtain ⟨x, hx0⟩ := hx f List.mem_cons_self
        obtain ⟨y, h1, h2⟩ := ih k f.type T _ x hx0 hkt
        refine ⟨y, h1, ?_, by omega⟩
        rw [ho, hc, List.take_of_length_le (by simp; omega)] at h2
        exact h2
    | f :: f' :: fs, k, off, T, hk, hx => by
      cases k with
      | zero => simp [okFs] at hk
      | succ k =>
        cases T <;> first | (simp [okFs] at hk; done) | skip
        rename_i a c
        simp only [okFs, Bool.and_eq_true, beq_iff_eq] at hk
        obtain ⟨ho, hkt, hc, hr⟩ := hk
        obtain ⟨x, hx0⟩ := hx f List.mem_cons_self
        obtain ⟨y, h1, h2⟩ := ih k f.type a _ x hx0 hkt
        obtain ⟨z, h3, h4, h5⟩ := fields cs ih (f' :: fs) k _ c hr (fun g hg => hx g (List.mem_cons_of_mem _ hg))
        refine ⟨(y, z), ⟨h1, h3⟩, ?_, by omega⟩
        rw [ho, hc] at h2
        have := h2.app h4
        rw [← List.drop_drop, List.take_append_drop] at this
        exact this
theorem RelCs.agg {I : Mem} {ds : List D} {cs : Array Value} (h : RelCs w I ds cs.toList) : RelD w I (.ag ds) (.agg cs) := by
  refine .ag ds cs (by rw [h.1, Array.length_toList]) (fun j hj => ?_) (fun j d hd => ?_)
  · have hj' : j < cs.size := by rw [h.1, Array.length_toList] at hj; exact hj
    have := (h.2 j _ _ (List.getElem?_eq_getElem hj) (by rw [Array.getElem?_toList, Array.getElem?_eq_getElem hj'])).2
    simpa [Array.getD_eq_getD_getElem?, Array.getElem?_eq_getElem hj'] using this
  · have hj := (List.getElem?_eq_some_iff.1 hd).1
    have hj' : j < cs.size := by rw [h.1, Array.length_toList] at hj; exact hj
    have := (h.2 j d _ hd (by rw [Array.getElem?_toList, Array.getElem?_eq_getElem hj'])).1
    simpa [Array.getD_eq_getD_getElem?, Array.getElem?_eq_getElem hj'] using this
end
open Go.WideShapes in
theorem read_arg {H : Type} {enc : TypeId × Value → H} {W : World} {base : Nat} {t : TypeId} {T : Ty} {v : Value} {d : DataW H} {p : List MemPlace} (hk : okTy P 40 t T = true) (hv : Value.okWide P W .any base t v) (h : DataW.Trod enc P W 0 (fun _ => true) true t v d p) :
    ∃ y : T.den, T.fit y ∧ RelD W (fun b => b < W.heap.size) (T.elt y) v := by
  obtain ⟨n, hn⟩ := h
  obtain ⟨y, h1, h2⟩ := read_ty trivial n 40 t T _ _ hn hk
  refine ⟨y, h1, ?_⟩
  have leaf : ∀ {d : D} {v : Value}, v.cells = #[v] → RelCs W (fun b => b < W.heap.size) [d] v.cells.toList → RelD W (fun b => b < W.heap.size) d v := by
    intro d v hc hr
    rw [hc] at hr
    exact (hr.2 0 d v rfl rfl).1
  simp only [okTy] at hk
  split at hk
  · rename_i hu
    obtain ⟨b, rfl⟩ := okWide_bool hu hv
    exact leaf rfl h2
  · rename_i hu
    obtain ⟨b, rfl⟩ := okWide_int hu hv
    exact leaf rfl h2
  · rename_i hu
    obtain ⟨b, rfl⟩ := okWide_string hu hv
    exact leaf rfl h2
  · rename_i hu
    obtain ⟨a, len, cap, rfl⟩ := okWide_slice hu hv
    exact leaf rfl h2
  · rename_i hu
    obtain ⟨cs, rfl, _⟩ := okWide_struct hu hv
    exact h2.agg
  · cases hk
theorem top_call {G : Nat → Option (List D)} {g : FuncId} {ds : List D} {r : D} (h : PCall P G g ds r) {W : World} (hG : Glob ⟨W, fun b => b < W.heap.size, fun _ => False, fun _ => 0, fun _ => 0, G⟩) {vs : Array Value} (hsz : vs.size = ds.length)
    (hv : ∀ (j : Nat) (d : D), ds[j]? = some d → RelD W (fun b => b < W.heap.size) d (vs.getD j undef)) : Calls P g vs W fun e W' => (∃ v I', e = .returned v ∧ RelX W' I' (fun _ => False) r v) ∧ Go.RowKit.Below W.heap.size W W' := by
  refine (h W (fun b => b < W.heap.size) (fun _ => False) vs hG (fun _ h => h) (fun _ h => h.elim) (fun _ _ h => h) hsz hv).mono ?_
  rintro e w' ⟨v, I', he, h1, h2, h3, h4, h5, h6, h7, h8, h9⟩
  exact ⟨⟨v, I', he, h9⟩, h6, h7, h8, h1, fun k hk => (h2 k hk).2⟩
end Go.Fw
end
section
set_option linter.unusedVariables false
set_option linter.unusedSimpArgs false
namespace Go.Fw
open Go.RowKit
variable {P : Program}
theorem pcall_below {G : Nat → Option (List D)} {g : FuncId} {ds : List D} {r : D}
    (h : ∀ (w : World) (I K : Mem) (vs : Array Value), Glob ⟨w, I, K, fun _ => 0, fun _ => 0, G⟩ → vs.size = ds.length → (∀ (j : Nat) (d : D), ds[j]? = some d → RelD w I d (vs.getD j undef)) →
      Calls P g vs w fun e w' => ∃ v, e = .returned v ∧ Below w.heap.size w w' ∧ RelX w' I K r v) : PCall P G g ds r := by
  intro w I K vs hg hI hK hd hsz hargs
  refine (h w I K vs hg hsz hargs).mono ?_
  rintro e w' ⟨v, rfl, hb, hx⟩
  refine ⟨v, I, rfl, hb.size, fun b hb' => ⟨hb', hb.block b (hI b hb')⟩, fun b hb' => hb.block b (hK b hb'), fun b hb' => ⟨Nat.lt_of_lt_of_le (hI b hb') hb.size, hd b hb'⟩, fun b cs e fz hc => ⟨cs, ?_, rfl⟩, hb.os, hb.tape, hb.output, hx⟩
  rw [hb.block b (Array.getElem?_eq_some_iff.1 hc).1]
  exact hc
theorem PCall.more {G G' : Nat → Option (List D)} (hG : ∀ g cs, G g = some cs → G' g = some cs) {g : FuncId} {ds : List D} {r : D} (h : PCall P G g ds r) : PCall P G' g ds r := by
  intro w I K vs hg
  exact h w I K vs fun g cs hc => hg g cs (hG g cs hc)
theorem RowOK.more {G G' : Nat → Option (List D)} (hG : ∀ g cs, G g = some cs → G' g = some cs) {w : Row} (h : RowOK P G w) : RowOK P G' w :=
  fun ds a q ha hq => ⟨(h ds a q ha hq).1, (h ds a q ha hq).2.more hG⟩
theorem glob_cells {c : Cf} (hg : Glob c) {g : Nat} {cs : List D} (hG : c.G g = some cs) : ∃ vs e fz, c.w.heap[g]? = some (.cells vs e fz) ∧ vs.size = cs.length ∧ ∀ (j : Nat) (d : D), cs[j]? = some d → RelD c.w c.I d (vs.getD j undef) := by
  obtain ⟨vs, e, fz, h1, _, h3, _, h5⟩ := hg g cs hG
  exact ⟨vs, e, fz, h1, h3, h5⟩
theorem tab_of_glob {c : Cf} (hg : Glob c) {g : Nat} {name : String} {k : IntKind} {zs : List Int} (hn : P.globalNamed name = some g) (hG : c.G g = some (zs.map fun z => D.i k z)) : Lib.TabIs P c.w name k zs := by
  obtain ⟨vs, e, fz, h1, h2, h3⟩ := glob_cells hg hG
  unfold Lib.TabIs World.var?
  simp only [hn, Option.bind_some, h1, Option.some.injEq]
  refine Array.ext (by simpa using h2) fun i hi hi' => ?_
  have hl : i < zs.length := by simpa using hi'
  have := h3 i (.i k zs[i]) (by simp [hl])
  rw [Array.getD_eq_getD_getElem?, Array.getElem?_eq_getElem hi] at this
  simp only [Option.getD_some] at this
  generalize vs[i] = v at this
  cases this
  simp
theorem err_of_glob {c : Cf} (hg : Glob c) {g : Nat} {name : String} (hn : P.globalNamed name = some g) (hG : c.G g = some [.er true]) : ∃ tp p, c.w.var? P name = some #[.iface tp p] := by
  obtain ⟨vs, e, fz, h1, h2, h3⟩ := glob_cells hg hG
  have := h3 0 (.er true) rfl
  have hs : vs.size = 1 := h2
  rw [Array.getD_eq_getD_getElem?, Array.getElem?_eq_getElem (by omega)] at this
  simp only [Option.getD_some] at this
  generalize hv : vs[0] = v at this
  cases this with
  | er1 t u =>
    refine ⟨t, u, ?_⟩
    unfold World.var?
    simp only [hn, Option.bind_some, h1, Option.some.injEq]
    refine Array.ext (by simpa using hs) fun i hi hi' => ?_
    have : i = 0 := by omega
    subst this
    exact hv

def GlobAt (W : World) (g : Nat) (cs : List D) : Prop := ∃ vs e fz, W.heap[g]? = some (.cells vs e fz) ∧ vs.size = cs.length ∧ (∀ j : Nat, j < cs.length → (vs.getD j undef).oneCell' = true) ∧
  ∀ (j : Nat) (d : D), cs[j]? = some d → RelD W (fun b => b < W.heap.size) d (vs.getD j undef)
theorem var_cells {W : World} {name : String} {g : Nat} {vs : Array Value} (hn : P.globalNamed name = some g) (h : W.var? P name = some vs) : ∃ e fz, W.heap[g]? = some (.cells vs e fz) := by
  unfold World.var? at h
  simp only [hn, Option.bind_some] at h
  split at h
  · rename_i cs e fz hc
    injection h with h
    subst h
    exact ⟨e, fz, hc⟩
  · cases h
theorem globAt_tab {W : World} {g : Nat} {name : String} {k : IntKind} {zs : List Int} (hn : P.globalNamed name = some g) (h : Lib.TabIs P W name k zs) : GlobAt W g (zs.map fun z => D.i k z) := by
  obtain ⟨e, fz, hc⟩ := var_cells hn h
  refine ⟨_, e, fz, hc, by simp, fun j hj => ?_, fun j d hj => ?_⟩
  · have hj : j < zs.length := by simpa using hj
    simp [Array.getD_eq_getD_getElem?, hj, Value.oneCell']
  · simp only [List.getElem?_map] at hj
    obtain ⟨z, hz, rfl⟩ := Option.map_eq_some_iff.1 hj
    simp only [Array.getD_eq_getD_getElem?, List.getElem?_toArray, List.getElem?_map, hz, Option.map_some, Option.getD_some]
    exact .i k z
theorem globAt_err {W : World} {g : Nat} {name : String} (hn : P.globalNamed name = some g) (h : ∃ t p, W.var? P name = some #[.iface t p]) : GlobAt W g [.er true] := by
  obtain ⟨t, p, h⟩ := h
  obtain ⟨e, fz, hc⟩ := var_cells hn h
  refine ⟨_, e, fz, hc, rfl, fun j hj => ?_, fun j d hj => ?_⟩
  · have : j = 0 := by simp at hj; omega
    subst this; rfl
  · cases j with
    | zero => simp at hj; subst hj; exact .er1 t p
    | succ j => simp at hj
theorem glob_none' {W : World} {I K : Mem} {bk ln : Nat → Nat} : Glob ⟨W, I, K, bk, ln, fun _ => none⟩ := fun g cs h => by cases h
theorem glob_cons {W : World} {K : Mem} {bk ln : Nat → Nat} {n : Nat} {cs : List D} {G : Nat → Option (List D)} (h : GlobAt W n cs) (hg : Glob ⟨W, fun b => b < W.heap.size, K, bk, ln, G⟩) :
    Glob ⟨W, fun b => b < W.heap.size, K, bk, ln, fun g => bif g == n then some cs else G g⟩ := by
  intro g cs' hc
  have hc : (bif g == n then some cs else G g) = some cs' := hc
  cases hb : (g == n) with
  | false => rw [hb] at hc; exact hg g cs' hc
  | true =>
    rw [hb] at hc
    injection hc with hc
    subst hc
    have : g = n := by simpa using hb
    subst this
    obtain ⟨vs, e, fz, h1, h2, h3, h4⟩ := h
    exact ⟨vs, e, fz, h1, (Array.getElem?_eq_some_iff.1 h1).1, h2, h3, h4⟩
theorem laid_err {n nm : String} {d : DataW Unit} {r : List (String × DataW Unit)} {W : World} {g : Nat} {ti : TypeId} {ms : Array (String × TypeId)}
    (h : laidMet P ((n, .iface nm d) :: r) W) (hg : P.globalNamed n = some g) (ht : (P.globals[g]?).map (·.type) = some ti) (hi : P.underlying ti = some (.interface ms)) : ∃ t p, W.var? P n = some #[.iface t p] := by
  obtain ⟨ps, ⟨g0, t0, cs0, f0, p0, q0, hg0, ht0, hv0, hd0, _, e0⟩, _, hrows⟩ := h
  obtain rfl := Option.some.inj (hg.symm.trans hg0)
  obtain rfl := Option.some.inj (ht.symm.trans ht0)
  obtain ⟨l0⟩ := cs0
  have : ∃ u v, l0 = [.iface u v] := by
    cases f0 with
    | zero => simp [DataW.trod] at hd0
    | succ f0 =>
      unfold DataW.trod at hd0
      simp only [hi] at hd0
      split at hd0 <;> first | exact ⟨_, _, rfl⟩ | (simp at hd0; done) | skip
      all_goals simp_all
  obtain ⟨u, v, rfl⟩ := this
  exact ⟨u, v, hv0⟩
def decF : Nat → Nat → List UInt8
  | 0, _ => []
  | n + 1, u => bif Nat.blt u 10 then [UInt8.ofNat (48 + u)] else decF n (u / 10) ++ [UInt8.ofNat (48 + u % 10)]
theorem decF_is : ∀ (n u : Nat), u < 10 ^ (n + 1) → decF (n + 1) u = Lib.decDigits u
  | 0, u, h => by
    have h' : u < 10 := by simpa using h
    have hb : Nat.blt u 10 = true := by rw [Nat.blt_eq]; exact h'
    unfold Lib.decDigits
    simp [decF, hb, h']
  | n + 1, u, h => by
    unfold decF Lib.decDigits
    by_cases h' : u < 10
    · have hb : Nat.blt u 10 = true := by rw [Nat.blt_eq]; exact h'
      simp [hb, h']
    · have hb : Nat.blt u 10 = false := by
        cases hb : Nat.blt u 10
        · rfl
        · rw [Nat.blt_eq] at hb; omega
      simp only [hb, cond_false, h', dite_false]
      rw [decF_is n (u / 10) (by have : 10 ^ (n + 1 + 1) = 10 ^ (n + 1) * 10 := Nat.pow_succ ..; omega)]
def fmtU (a : Int × Int) : Option ByteArray := bif decide (0 ≤ a.1) && decide (a.1 < 18446744073709551616) && decide (a.2 = 10) then some ⟨(decF 20 a.1.toNat).toArray⟩ else none
end Go.Fw
end
section
set_option linter.unusedVariables false
set_option linter.unusedSimpArgs false
namespace Go.Fw
open Go.ChangeShapes Go.WideShapes Go.ChangeAt Go.RowKit
def okTys (P : Program) : List TypeId → List Ty → Bool
  | [], [] => true
  | t :: ts, T :: Ts => okTy P 40 t T && (P.readableRec t && (decide (t < P.types.size) && okTys P ts Ts))
  | _, _ => false
def FitAll : (Ts : List Ty) → Vals Ts → Prop
  | [], _ => True
  | [T], x => T.fit x
  | T :: T' :: Ts, x => T.fit x.1 ∧ FitAll (T' :: Ts) x.2
section
variable {P : Program} {H : Type} {enc : TypeId × Value → H} {W : World} {base : Nat}
theorem read_all : ∀ {ts : List TypeId} {Ts : List Ty} {vs : List Value} {ds : List (DataW H)} {ps : List MemPlace}, okTys P ts Ts = true → DataW.TrodAll enc P W 0 (fun _ => true) true ts vs ds ps →
    (∀ (j : Nat) t v, ts[j]? = some t → vs[j]? = some v → Value.okWide P W .any base t v) →
    ∃ a : Vals Ts, FitAll Ts a ∧ ds.length = ts.length ∧ vs.length = (elts Ts a).length ∧ (∀ (j : Nat) (d : D), (elts Ts a)[j]? = some d → ∃ v, vs[j]? = some v ∧ RelD W (fun b => b < W.heap.size) d v)
  | [], [], vs, ds, ps, hk, h, hv => by
    obtain ⟨rfl, rfl, rfl⟩ := trodAll_nil h
    exact ⟨(), trivial, rfl, rfl, fun j d hd => by simp [elts] at hd⟩
  | [], _ :: _, vs, ds, ps, hk, h, hv => by simp [okTys] at hk
  | _ :: _, [], vs, ds, ps, hk, h, hv => by simp [okTys] at hk
  | t :: ts, T :: Ts, vs, ds, ps, hk, h, hv => by
    simp only [okTys, Bool.and_eq_true] at hk
    obtain ⟨hk, _, _, hks⟩ := hk
    obtain ⟨v, vs', d, ds', p, q, rfl, rfl, rfl, h0, h1⟩ := trodAll_cons h
    obtain ⟨y, hy, hr⟩ := read_arg hk (hv 0 t v rfl rfl) h0
    obtain ⟨a, ha, hl, hls, hrs⟩ := read_all hks h1 fun j t v ht hj => hv (j + 1) t v ht hj
    cases Ts with
    | nil =>
      cases ts with
      | cons => simp [okTys] at hks
      | nil =>
        obtain ⟨rfl, rfl, rfl⟩ := trodAll_nil h1
        refine ⟨y, hy, rfl, rfl, fun j d hd => ?_⟩
        cases j with
        | zero => simp [elts] at hd; subst hd; exact ⟨v, rfl, hr⟩
        | succ j => simp [elts] at hd
    | cons T' Ts =>
      refine ⟨(y, a), ⟨hy, ha⟩, by simp [hl], by simp [elts, hls], fun j d hd => ?_⟩
      cases j with
      | zero => simp [elts] at hd; subst hd; exact ⟨v, rfl, hr⟩
      | succ j => simp only [elts, List.getElem?_cons_succ] at hd; exact hrs j d hd
theorem trod_back (hl : laidOutB P = true) {W' : World} (hb : Below W.heap.size W W') : ∀ {ts : List TypeId} {Ts : List Ty} {vs : List Value} {ds : List (DataW H)} {ps : List MemPlace}, okTys P ts Ts = true → DataW.TrodAll enc P W 0 (fun _ => true) true ts vs ds ps →
    DataW.TrodAll enc P W' 0 (fun b => decide (b < W.heap.size)) true ts vs ds ps
  | [], [], vs, ds, ps, hk, h => by
    obtain ⟨rfl, rfl, rfl⟩ := trodAll_nil h
    exact trodAll_mk0
  | [], _ :: _, vs, ds, ps, hk, h => by simp [okTys] at hk
  | _ :: _, [], vs, ds, ps, hk, h => by simp [okTys] at hk
  | t :: ts, T :: Ts, vs, ds, ps, hk, h => by
    simp only [okTys, Bool.and_eq_true, decide_eq_true_eq] at hk
    obtain ⟨hk, hrr, hsz, hks⟩ := hk
    obtain ⟨v, vs', d, ds', p, q, rfl, rfl, rfl, h0, h1⟩ := trodAll_cons h
    have lt : ∀ x ∈ p, x.block < W.heap.size := by
      obtain ⟨m, hm⟩ := h0
      exact DataW.trod_lt m _ _ _ hm
    exact trodAll_cons_mk (Below.trod hl hrr hsz h0 hb lt) (trod_back hl hb hks h1)
theorem law_call {G : Nat → Option (List D)} {fn : Func} {g : FuncId} {As : Shs} {F : Vals As.tys → Option Bool} {s : ChangeSpec} {tb : TypeId} (hl : laidOutB P = true)
    (hok : RowOK P G (fnRow g As [(false, .b)] F)) (hgl : Glob ⟨W, fun b => b < W.heap.size, fun _ => False, fun _ => 0, fun _ => 0, G⟩) (hty : okTys P fn.params.toList As.tys = true) (hdec : ∀ a : Vals As.tys, decArgs As (elts As.tys a) = some a)
    (hres : fn.resultTypes = #[tb]) (htb : P.underlying tb = some .bool) (hvars : s.vars = []) (hspec : ∀ ds : List (DataW H), ds.length = fn.params.toList.length → (s.fn H ds).results = [.lit (.bool true)] ∧ (s.fn H ds).args = ds ∧ (s.fn H ds).vars = [])
    (hlaw : ∀ a : Vals As.tys, FitAll As.tys a → F a = some true)
    {args : Array Value} {ds gs : List (DataW H)} {before : List MemPlace} (hval : ∀ (j : Nat) t v, fn.params[j]? = some t → args[j]? = some v → Value.okWide P W .any base t v)
    (hW : DataW.Whole enc P fn.params.toList s.vars false W args.toList ds gs before) :
    Calls P g args W fun e W' => ∃ v, e = .returned v ∧ s.post enc P fn false true false false W args v W' := by
  have hW' := hW
  obtain ⟨p, q, hA, hV, rfl, hfz, hnd⟩ := hW
  obtain ⟨a, ha, hdl, hvl, hr⟩ := read_all hty hA fun j t v ht hv => hval j t v (by rw [← Array.getElem?_toList]; exact ht) (by rw [← Array.getElem?_toList]; exact hv)
  rw [hvars] at hV
  obtain ⟨rfl, rfl⟩ := trodVars_none hV
  have call := (hok _ a true (hdec a) (hlaw a ha)).2
  refine (top_call (W := W) (vs := args) call hgl (by rw [← Array.length_toList]; exact hvl) (fun j d hd => ?_)).mono ?_
  · obtain ⟨v, hv, hrel⟩ := hr j d hd
    rw [Array.getElem?_toList] at hv
    rw [Array.getD_eq_getD_getElem?, hv]
    exact hrel
  · rintro e W' ⟨⟨v, I', rfl, hx⟩, bel⟩
    have hv : v = .bool true := by
      have hx' : RelX W' I' (fun _ => False) (.b true) v := hx
      cases hx'; rfl
    subst hv
    obtain ⟨s1, s2, s3⟩ := hspec (ds ++ []) (by rw [List.append_nil]; exact hdl)
    refine ⟨_, rfl, ds, [], p ++ [], [], p, [], hW', ?_, ?_, ?_, bel.frame _, fun h => by cases h⟩
    · rw [s1, hres]
      exact trodAll_mk1 (shut_bool htb _)
    · rw [s2, List.append_nil]
      exact trod_back hl bel hty hA
    · rw [s3, hvars]; rfl
end
end Go.Fw
end
section
set_option linter.unusedVariables false
set_option linter.unusedSimpArgs false
namespace Go.Fw
theorem wrap_i64 {n : Int} (h1 : -9223372036854775808 ≤ n) (h2 : n ≤ 9223372036854775807) : IntKind.wrap .i64 n = n := by rw [IntKind.wrap_i64]; omega
theorem wrap_u64 (n : Int) : IntKind.wrap .u64 n = n % 18446744073709551616 := by
  show (if (false && decide (n % 18446744073709551616 ≥ 9223372036854775808)) = true then n % 18446744073709551616 - 18446744073709551616 else n % 18446744073709551616) = _
  simp
theorem wrap_u8 (n : Int) : IntKind.wrap .u8 n = n % 256 := by
  show (if (false && decide (n % 256 ≥ 128)) = true then n % 256 - 256 else n % 256) = _
  simp
theorem wrap_up {n : Nat} (h : n < 9223372036854775807) : IntKind.wrap .i64 ((n : Int) + 1) = ((n + 1 : Nat) : Int) := by rw [wrap_i64 (by omega) (by omega)]; omega
theorem bt_bound (s : ByteArray) (i : Nat) : 0 ≤ bt s i ∧ bt s i ≤ 255 := by
  unfold bt
  have := (s.data.toList.getD i 0).toNat_lt
  omega
section
variable {S R : Type} {t : S → Option (S ⊕ R)}
theorem rounds_end {s : S} {r : R} (h : t s = some (.inr r)) : rounds t s = some r := by rw [rounds_eq, h]
theorem rounds_next {s s' : S} (h : t s = some (.inl s')) : rounds t s = rounds t s' := by rw [rounds_eq, h]
theorem rounds_to (st : Nat → S) (n : Nat) (h : ∀ i, i < n → t (st i) = some (.inl (st (i + 1)))) : rounds t (st 0) = rounds t (st n) := by
  induction n with
  | zero => rfl
  | succ n ih => rw [ih fun i hi => h i (by omega), rounds_next (h n (by omega))]
theorem rounds_all (st : Nat → S) (p : Nat → Bool) (out fin : R) (n : Nat) (h : ∀ i, i < n → t (st i) = some (bif p i then .inl (st (i + 1)) else .inr out)) (hf : t (st n) = some (.inr fin)) :
    rounds t (st 0) = some (bif (List.range n).all p then fin else out) := by
  have go : ∀ k, k ≤ n → rounds t (st 0) = bif (List.range k).all p then rounds t (st k) else some out := by
    intro k
    induction k with
    | zero => intro _; rfl
    | succ k ih =>
      intro hk
      rw [ih (by omega), List.range_succ, List.all_append]
      cases (List.range k).all p with
      | false => rfl
      | true =>
        have h1 := h k (by omega)
        cases hp : p k with
        | false => rw [hp] at h1; simp [hp, rounds_end h1]
        | true => rw [hp] at h1; simp [hp, rounds_next h1]
  rw [go n (Nat.le_refl _), rounds_end hf]
  cases (List.range n).all p <;> rfl
end
def sumTo (f : Nat → Int) : Nat → Int
  | 0 => 0
  | n + 1 => sumTo f n + f n
theorem sumTo_back (f : Nat → Int) : ∀ n, sumTo (fun j => f (n - 1 - j)) n = sumTo f n := by
  have first : ∀ (g : Nat → Int) (n : Nat), sumTo g (n + 1) = g 0 + sumTo (fun j => g (j + 1)) n := by
    intro g n
    induction n with
    | zero => simp [sumTo]
    | succ n ih => rw [sumTo, ih, sumTo]; omega
  have same : ∀ (g h : Nat → Int) (n : Nat), (∀ j, j < n → g j = h j) → sumTo g n = sumTo h n := by
    intro g h n
    induction n with
    | zero => intro _; rfl
    | succ n ih => intro hh; rw [sumTo, sumTo, ih fun j hj => hh j (by omega), hh n (by omega)]
  intro n
  induction n with
  | zero => rfl
  | succ n ih =>
    rw [first, sumTo, ← ih, same (fun j => f (n + 1 - 1 - (j + 1))) (fun j => f (n - 1 - j)) n fun j hj => by
      have : n + 1 - 1 - (j + 1) = n - 1 - j := by omega
      simp only [this]]
    simp only [Nat.add_sub_cancel, Nat.sub_zero]
    omega
theorem sumTo_bound {f : Nat → Int} {b : Int} : ∀ {n : Nat}, (∀ j, j < n → 0 ≤ f j ∧ f j ≤ b) → 0 ≤ sumTo f n ∧ sumTo f n ≤ b * n
  | 0, _ => by simp [sumTo]
  | n + 1, h => by
    have ih := sumTo_bound (f := f) (b := b) (n := n) fun j hj => h j (by omega)
    have := h n (by omega)
    have e : b * ((n + 1 : Nat) : Int) = b * n + b := by rw [Int.natCast_add, Int.mul_add]; simp
    rw [sumTo, e]
    omega
theorem getD_at {α : Type} {l : List α} {i : Nat} {d : α} (h : i < l.length) : l.getD i d = l[i] := by simp [List.getD_eq_getElem?_getD, List.getElem?_eq_getElem h]
theorem take_up {α : Type} {l : List α} {i : Nat} (d : α) (h : i < l.length) : l.take (i + 1) = l.take i ++ [l.getD i d] := by
  rw [List.take_succ_eq_append_getElem h, getD_at h]
theorem range_all {α : Type} (p : α → Bool) (d : α) (l : List α) : ((List.range l.length).all fun i => p (l.getD i d)) = l.all p := by
  rw [Bool.eq_iff_iff, List.all_eq_true, List.all_eq_true]
  constructor
  · intro h x hx
    obtain ⟨i, hi, rfl⟩ := List.getElem_of_mem hx
    have := h i (List.mem_range.2 hi)
    rwa [getD_at hi] at this
  · intro h i hi
    have hi := List.mem_range.1 hi
    rw [getD_at hi]
    exact h _ (List.getElem_mem hi)
theorem room {n m : Nat} (w k : Nat) (h : n ≤ m) (hw : (m + 1) * w ≤ k) : Nat.ble ((n + 1) * w) k = true := Nat.ble_eq_true_of_le (Nat.le_trans (Nat.mul_le_mul_right w (by omega)) hw)
def Am (a : Int) : Prop := -9223372036854775808 ≤ a ∧ a ≤ 9223372036854775807
end Go.Fw
end
section
set_option linter.unusedVariables false
set_option linter.unusedSimpArgs false
namespace Go.Proofs.YtopoklifappmcaaGreatDoor
open Go Go.Fw
noncomputable abbrev P := Tryz.prog
theorem pick_le {n : Nat} {cs : List D} {A B : Nat → Option (List D)} (h : ∀ g c, A g = some c → B g = some c) : ∀ g c, (bif g == n then some cs else A g) = some c → (bif g == n then some cs else B g) = some c := by
  intro g c
  cases (g == n)
  · exact h g c
  · exact fun h => h
abbrev G0 : Nat → Option (List D) := fun g => bif g == 3 then some [.i .u64 1, .i .u64 10, .i .u64 100, .i .u64 1000, .i .u64 10000, .i .u64 100000, .i .u64 1000000, .i .u64 10000000, .i .u64 100000000, .i .u64 1000000000, .i .u64 10000000000, .i .u64 100000000000, .i .u64 1000000000000, .i .u64 10000000000000, .i .u64 100000000000000, .i .u64 1000000000000000, .i .u64 10000000000000000, .i .u64 100000000000000000, .i .u64 1000000000000000000, .i .u64 10000000000000000000] else none
abbrev G1 : Nat → Option (List D) := fun g => bif g == 3 then some [.i .u64 1, .i .u64 10, .i .u64 100, .i .u64 1000, .i .u64 10000, .i .u64 100000, .i .u64 1000000, .i .u64 10000000, .i .u64 100000000, .i .u64 1000000000, .i .u64 10000000000, .i .u64 100000000000, .i .u64 1000000000000, .i .u64 10000000000000, .i .u64 100000000000000, .i .u64 1000000000000000, .i .u64 10000000000000000, .i .u64 100000000000000000, .i .u64 1000000000000000000, .i .u64 10000000000000000000] else bif g == 1 then some [.er true] else bif g == 2 then some [.er true] else none
abbrev G2 : Nat → Option (List D) := fun g => bif g == 3 then some [.i .u64 1, .i .u64 10, .i .u64 100, .i .u64 1000, .i .u64 10000, .i .u64 100000, .i .u64 1000000, .i .u64 10000000, .i .u64 100000000, .i .u64 1000000000, .i .u64 10000000000, .i .u64 100000000000, .i .u64 1000000000000, .i .u64 10000000000000, .i .u64 100000000000000, .i .u64 1000000000000000, .i .u64 10000000000000000, .i .u64 100000000000000000, .i .u64 1000000000000000000, .i .u64 10000000000000000000] else bif g == 1 then some [.er true] else bif g == 2 then some [.er true] else bif g == 5 then some [.i .u8 128, .i .u8 191, .i .u8 160, .i .u8 191, .i .u8 128, .i .u8 159, .i .u8 144, .i .u8 191, .i .u8 128, .i .u8 143, .i .u8 0, .i .u8 0, .i .u8 0, .i .u8 0, .i .u8 0, .i .u8 0, .i .u8 0, .i .u8 0, .i .u8 0, .i .u8 0, .i .u8 0, .i .u8 0, .i .u8 0, .i .u8 0, .i .u8 0, .i .u8 0, .i .u8 0, .i .u8 0, .i .u8 0, .i .u8 0, .i .u8 0, .i .u8 0] else none
theorem g01 : ∀ g cs, G0 g = some cs → G1 g = some cs := pick_le (fun _ _ h => by cases h)
theorem g12 : ∀ g cs, G1 g = some cs → G2 g = some cs := pick_le (pick_le (pick_le (fun _ _ h => by cases h)))
abbrev T_api_Pair : Ty := (.g (.p .s .s))
abbrev T_api_Account : Ty := (.g (.p (.i .i64) .s))
abbrev T_api_Dup : Ty := (.g (.p (.i .i64) (.p .s (.p .s (.p .s (.i .i64))))))
abbrev T_api_Claim : Ty := (.g (.p .s (.p .s (.p .s (.p (.i .i64) (.p (.i .i64) (.i .i64)))))))
abbrev T_api_Post : Ty := (.g (.p (.i .i64) (.p (.i .i64) (.p .s (.p .s (.p .s (.i .i64)))))))
abbrev T_api_Hold : Ty := (.g (.p .s (.p .s (.p .s (.p (.i .i64) (.p (.i .i64) (.p (.i .i64) .b)))))))
abbrev T_api_State : Ty := (.g (.p (.i .i64) (.p (.i .i64) (.p (.i .i64) (.p (.l T_api_Post) (.p (.l T_api_Hold) (.p (.l T_api_Dup) (.p (.l T_api_Dup) (.l T_api_Claim)))))))))
def cmpS : List D → Option (Bool × D) := fun ds => match ds with
  | [.s x, .s y] => some (true, .i .i64 (Lib.compareBytes x.data.toList y.data.toList))
  | _ => none
theorem cmpS_ok : ExtOK P 141 (bare cmpS) := by
  intro ds r h w I vs hsz hv
  unfold bare cmpS at h
  split at h
  · rename_i b q hq
    obtain ⟨hb, h⟩ := cond_some h
    injection h with h
    subst h
    split at hq
    · rename_i x y
      injection hq with hq
      injection hq with hq1 hq2
      subst hq2
      have e0 := hv 0 _ rfl
      have e1 := hv 1 _ rfl
      have hvs : vs = #[vs.getD 0 undef, vs.getD 1 undef] := by
        apply Array.ext
        · simpa using hsz
        · intro i hi hi'
          simp at hi'
          have : i = 0 ∨ i = 1 := by omega
          rcases this with rfl | rfl <;> simp [Array.getD_eq_getD_getElem?, Array.getElem?_eq_getElem hi]
      generalize vs.getD 0 undef = a0 at e0 hvs
      generalize vs.getD 1 undef = a1 at e1 hvs
      cases e0; cases e1
      refine ⟨_, by rw [hvs, run_callFunc_extern Tryz.func141 (by kernel_rfl) (by kernel_rfl) (by kernel_rfl) (e := Extern.BytealgCompare.compare) (by kernel_rfl), Lib.run_compareString]; rfl, ?_⟩
      exact .i _ _
    · cases hq
  · cases h
def idxB : List D → Option (Bool × D) := fun ds => match ds with
  | [.s x, .i .u8 y] => some (true, .i .i64 (Lib.indexByte x.data.toList y.toNat.toUInt8))
  | _ => none
theorem idxB_ok : ExtOK P 223 (bare idxB) := by
  intro ds r h w I vs hsz hv
  unfold bare idxB at h
  split at h
  · rename_i b q hq
    obtain ⟨hb, h⟩ := cond_some h
    injection h with h
    subst h
    split at hq
    · rename_i x y
      injection hq with hq
      injection hq with hq1 hq2
      subst hq2
      have e0 := hv 0 _ rfl
      have e1 := hv 1 _ rfl
      have hvs : vs = #[vs.getD 0 undef, vs.getD 1 undef] := by
        apply Array.ext
        · simpa using hsz
        · intro i hi hi'
          simp at hi'
          have : i = 0 ∨ i = 1 := by omega
          rcases this with rfl | rfl <;> simp [Array.getD_eq_getD_getElem?, Array.getElem?_eq_getElem hi]
      generalize vs.getD 0 undef = a0 at e0 hvs
      generalize vs.getD 1 undef = a1 at e1 hvs
      cases e0; cases e1
      refine ⟨_, by rw [hvs, run_callFunc_extern Tryz.func223 (by kernel_rfl) (by kernel_rfl) (by kernel_rfl) (e := Extern.BytealgIndexByte.indexByte) (by kernel_rfl), Lib.run_indexByteString]; rfl, ?_⟩
      exact .i _ _
    · cases hq
  · cases h
abbrev E0 : FuncId → Option (List D → Option (Bool × D)) := fun g => bif g == 141 then some cmpS else bif g == 223 then some idxB else none
theorem e0_ok : ∀ g f, E0 g = some f → ExtOK P g (bare f) := by
  intro g f h
  unfold E0 at h
  cases hg141 : (g == 141) with
  | true =>
    rw [hg141] at h
    injection h with h
    subst h
    have : g = 141 := by simpa using hg141
    subst this
    exact cmpS_ok
  | false =>
  rw [hg141] at h
  simp only [cond_false] at h
  cases hg223 : (g == 223) with
  | true =>
    rw [hg223] at h
    injection h with h
    subst h
    have : g = 223 := by simpa using hg223
    subst this
    exact idxB_ok
  | false =>
  rw [hg223] at h
  simp only [cond_false] at h
  cases h
abbrev J0 : FuncId → Option TypeId := fun _ => none
theorem j0_ok : InsAll P J0 := fun g e h => by cases h
end Go.Proofs.YtopoklifappmcaaGreatDoor
end
section
set_option linter.unusedVariables false
set_option maxRecDepth 100000
namespace Go.Proofs.YtopoklifappmcaaGreatDoor
open Go Go.Fw
abbrev digit_All.As : Shs := (.cons (.x .s) .nil)
abbrev digit_All.m : Back := [(false, .b)]
noncomputable abbrev digit_All.H : HK := hk P G0 E0 J0 [] noLoops 4
theorem digit_All.rows : TabOK P G0 (tabF []) := rows_ok (ws := []) trivial
theorem digit_All.hok : HKOK P digit_All.H := hk_ok e0_ok j0_ok digit_All.rows (fun g n => noLoops_ok g n) 4
noncomputable abbrev digit_All.sh3 : SSh := ⟨[(0, (.x .s)), (5, (.x (.i .i64))), (6, (.x (.i .i64)))], []⟩
noncomputable abbrev digit_All.os3 : PEnds := [(.ret, ⟨[(2, (.x .b))], []⟩), ((.exit 0), ⟨[], []⟩)]
noncomputable def digit_All.t3 (s : (ByteArray × (Int × Int))) : Option ((ByteArray × (Int × Int)) ⊕ (Bool ⊕ Unit)) := (bif (decide ((s.2.2 < s.2.1))) then (bif ((decide (((0 : Int) ≤ s.2.2))) && (decide ((s.2.2 < (s.1.size : Int))))) then (bif (decide (((bt s.1 (Int.toNat s.2.2)) < (48 : Int)))) then (some (.inr (.inl false))) else (bif ((decide (((0 : Int) ≤ s.2.2))) && (decide ((s.2.2 < (s.1.size : Int))))) then (bif (decide (((bt s.1 (Int.toNat s.2.2)) > (57 : Int)))) then (some (.inr (.inl false))) else (some (.inl (s.1, (s.2.1, (IntKind.wrap .i64 (s.2.2 + (1 : Int)))))))) else none)) else none) else (some (.inr (.inr ()))))
theorem digit_All.t3_ok : ∀ s : Vals digit_All.sh3.tys, turnK P digit_All.H (lp []) (bodyAt (codeOf P 146) 3) 0 digit_All.sh3 digit_All.os3 s some = digit_All.t3 s := fun s => by kernel_rfl
noncomputable def digit_All.l3 : (ByteArray × (Int × Int)) → Option (Bool ⊕ Unit) := rounds digit_All.t3
noncomputable def digit_All.f (a : ByteArray) : Option Bool := (((digit_All.l3 (a, ((a.size : Int), (0 : Int))))).bind fun x1 => (match x1 with | .inl x2 => (some x2) | .inr x2 => (some true)))
theorem digit_All.ok : ∀ a : Vals digit_All.As.tys, fnK P digit_All.H (lp [(3, (NodeT.summ ⟨digit_All.sh3, digit_All.os3, digit_All.l3⟩ 0))]) 146 digit_All.As digit_All.m a some = digit_All.f a := fun a => by kernel_rfl
noncomputable abbrev digit_All.row : Row := fnRow 146 digit_All.As digit_All.m digit_All.f
theorem digit_All.row_ok : RowOK P G0 digit_All.row := row_told digit_All.hok (lp_of (l := [(3, (NodeT.summ ⟨digit_All.sh3, digit_All.os3, digit_All.l3⟩ 0))]) ⟨(loop_sum digit_All.hok (by kernel_rfl) (by kernel_rfl) (l := []) trivial digit_All.sh3 digit_All.os3 (by kernel_rfl) digit_All.t3 digit_All.t3_ok), trivial⟩) (fun _ => rfl) digit_All.ok
abbrev digit_sum.As : Shs := (.cons (.x .s) .nil)
abbrev digit_sum.m : Back := [(false, (.i .i64))]
noncomputable abbrev digit_sum.H : HK := hk P G0 E0 J0 [] noLoops 4
theorem digit_sum.rows : TabOK P G0 (tabF []) := rows_ok (ws := []) trivial
theorem digit_sum.hok : HKOK P digit_sum.H := hk_ok e0_ok j0_ok digit_sum.rows (fun g n => noLoops_ok g n) 4
noncomputable abbrev digit_sum.sh5 : SSh := ⟨[(0, (.x .s)), (3, (.fn 204 .nil)), (4, (.x (.i .i64))), (8, (.x (.i .i64))), (9, (.x (.i .i64)))], []⟩
noncomputable abbrev digit_sum.os5 : PEnds := [((.exit 0), ⟨[(4, (.x (.i .i64)))], []⟩)]
noncomputable def digit_sum.t5 (s : (ByteArray × (Int × (Int × Int)))) : Option ((ByteArray × (Int × (Int × Int))) ⊕ (Int)) := (bif (decide ((s.2.2.2 < s.2.2.1))) then (bif ((decide (((0 : Int) ≤ (IntKind.wrap .i64 ((IntKind.wrap .i64 ((s.1.size : Int) - (1 : Int))) - s.2.2.2))))) && (decide (((IntKind.wrap .i64 ((IntKind.wrap .i64 ((s.1.size : Int) - (1 : Int))) - s.2.2.2)) < (s.1.size : Int))))) then (bif ((Int.tmod s.2.2.2 (2 : Int)) == (1 : Int)) then (some (.inl (s.1, ((IntKind.wrap .i64 (s.2.1 + (IntKind.wrap .i64 ((IntKind.wrap .i64 ((2 : Int) * (IntKind.wrap .i64 (IntKind.wrap .u8 ((bt s.1 (Int.toNat (IntKind.wrap .i64 ((IntKind.wrap .i64 ((s.1.size : Int) - (1 : Int))) - s.2.2.2)))) - (48 : Int)))))) - (IntKind.wrap .i64 ((9 : Int) * (IntKind.wrap .i64 (Int.tdiv (IntKind.wrap .i64 (IntKind.wrap .u8 ((bt s.1 (Int.toNat (IntKind.wrap .i64 ((IntKind.wrap .i64 ((s.1.size : Int) - (1 : Int))) - s.2.2.2)))) - (48 : Int)))) (5 : Int))))))))), (s.2.2.1, (IntKind.wrap .i64 (s.2.2.2 + (1 : Int)))))))) else (some (.inl (s.1, ((IntKind.wrap .i64 (s.2.1 + (IntKind.wrap .i64 (IntKind.wrap .u8 ((bt s.1 (Int.toNat (IntKind.wrap .i64 ((IntKind.wrap .i64 ((s.1.size : Int) - (1 : Int))) - s.2.2.2)))) - (48 : Int)))))), (s.2.2.1, (IntKind.wrap .i64 (s.2.2.2 + (1 : Int))))))))) else none) else (some (.inr s.2.1)))
theorem digit_sum.t5_ok : ∀ s : Vals digit_sum.sh5.tys, turnK P digit_sum.H (lp []) (bodyAt (codeOf P 180) 5) 0 digit_sum.sh5 digit_sum.os5 s some = digit_sum.t5 s := fun s => by kernel_rfl
noncomputable def digit_sum.l5 : (ByteArray × (Int × (Int × Int))) → Option (Int) := rounds digit_sum.t5
noncomputable def digit_sum.f (a : ByteArray) : Option Int := (((digit_sum.l5 (a, ((0 : Int), ((a.size : Int), (0 : Int)))))).bind fun x1 => (some x1))
theorem digit_sum.ok : ∀ a : Vals digit_sum.As.tys, fnK P digit_sum.H (lp [(5, (NodeT.summ ⟨digit_sum.sh5, digit_sum.os5, digit_sum.l5⟩ 0))]) 180 digit_sum.As digit_sum.m a some = digit_sum.f a := fun a => by kernel_rfl
noncomputable abbrev digit_sum.row : Row := fnRow 180 digit_sum.As digit_sum.m digit_sum.f
theorem digit_sum.row_ok : RowOK P G0 digit_sum.row := row_told digit_sum.hok (lp_of (l := [(5, (NodeT.summ ⟨digit_sum.sh5, digit_sum.os5, digit_sum.l5⟩ 0))]) ⟨(loop_sum digit_sum.hok (by kernel_rfl) (by kernel_rfl) (l := []) trivial digit_sum.sh5 digit_sum.os5 (by kernel_rfl) digit_sum.t5 digit_sum.t5_ok), trivial⟩) (fun _ => rfl) digit_sum.ok
abbrev digit_Sound.As : Shs := (.cons (.x .s) .nil)
abbrev digit_Sound.m : Back := [(false, .b)]
noncomputable abbrev digit_Sound.H : HK := hk P G0 E0 J0 [digit_All.row, digit_sum.row] noLoops 4
theorem digit_Sound.rows : TabOK P G0 (tabF [digit_All.row, digit_sum.row]) := rows_ok (ws := [digit_All.row, digit_sum.row]) ⟨digit_All.row_ok, ⟨digit_sum.row_ok, trivial⟩⟩
theorem digit_Sound.hok : HKOK P digit_Sound.H := hk_ok e0_ok j0_ok digit_Sound.rows (fun g n => noLoops_ok g n) 4
noncomputable def digit_Sound.f (a : ByteArray) : Option Bool := (bif (decide (((a.size : Int) ≥ (2 : Int)))) then (((digit_All.f a)).bind fun x1 => (bif x1 then (((digit_sum.f a)).bind fun x2 => (some ((Int.tmod x2 (10 : Int)) == (0 : Int)))) else (some false))) else (some false))
theorem digit_Sound.ok : ∀ a : Vals digit_Sound.As.tys, fnK P digit_Sound.H (lp []) 148 digit_Sound.As digit_Sound.m a some = digit_Sound.f a := fun a => by kernel_rfl
noncomputable abbrev digit_Sound.row : Row := fnRow 148 digit_Sound.As digit_Sound.m digit_Sound.f
theorem digit_Sound.row_ok : RowOK P G0 digit_Sound.row := row_told digit_Sound.hok (lp_of (l := []) trivial) (fun _ => rfl) digit_Sound.ok
end Go.Proofs.YtopoklifappmcaaGreatDoor
end
section
set_option linter.unusedVariables false
set_option linter.unusedSimpArgs false
namespace Go.Proofs.YtopoklifappmcaaGreatDoor
open Go Go.Fw
def digC (s : ByteArray) (i : Nat) : Bool := decide (48 ≤ bt s i) && decide (bt s i ≤ 57)
def digitsB (s : ByteArray) : Bool := (List.range s.size).all (digC s)
theorem digit_All_is (s : ByteArray) (hs : s.size ≤ 4611686018427387904) : digit_All.f s = some (digitsB s) := by
  have h := rounds_all (t := digit_All.t3) (fun i => (s, ((s.size : Int), (i : Int)))) (digC s) (.inl false) (.inr ()) s.size (fun i hi => by
    have := bt_bound s i
    have := wrap_up (n := i) (by omega)
    grind [digit_All.t3, digC]) (by simp [digit_All.t3])
  unfold digit_All.f digit_All.l3
  rw [show ((0 : Int)) = ((0 : Nat) : Int) from rfl, h]
  unfold digitsB
  cases (List.range s.size).all (digC s) <;> rfl
theorem digits_at {s : ByteArray} (h : digitsB s = true) {i : Nat} (hi : i < s.size) : 48 ≤ bt s i ∧ bt s i ≤ 57 := by
  unfold digitsB at h
  rw [List.all_eq_true] at h
  simpa [digC] using h i (List.mem_range.2 hi)
def term (s : ByteArray) (j : Nat) : Int := bif (s.size - j) % 2 == 0 then (bif decide (2 * (bt s j - 48) > 9) then 2 * (bt s j - 48) - 9 else 2 * (bt s j - 48)) else bt s j - 48
def luhn (s : ByteArray) : Int := sumTo (term s) s.size
theorem term_bound {s : ByteArray} (h : digitsB s = true) {j : Nat} (hj : j < s.size) : 0 ≤ term s j ∧ term s j ≤ 9 := by
  have := digits_at h hj
  grind [term]
theorem digit_sum_is (s : ByteArray) (hs : s.size ≤ 576460752303423488) (hd : digitsB s = true) : digit_sum.f s = some (luhn s) := by
  have hb : ∀ n, n ≤ s.size → 0 ≤ sumTo (fun j => term s (s.size - 1 - j)) n ∧ sumTo (fun j => term s (s.size - 1 - j)) n ≤ 9 * n := fun n hn => sumTo_bound fun j hj => term_bound hd (by omega)
  have h := rounds_to (t := digit_sum.t5) (fun i => (s, (sumTo (fun j => term s (s.size - 1 - j)) i, ((s.size : Int), (i : Int))))) s.size (fun i hi => by
    have h1 := digits_at hd (i := s.size - 1 - i) (by omega)
    have h2 := wrap_up (n := i) (by omega)
    have h3 : IntKind.wrap .i64 ((s.size : Int) - 1) = (s.size : Int) - 1 := wrap_i64 (by omega) (by omega)
    have h4 : IntKind.wrap .i64 ((s.size : Int) - 1 - i) = ((s.size - 1 - i : Nat) : Int) := by rw [wrap_i64 (by omega) (by omega)]; omega
    have h5 : term s (s.size - 1 - i) = bif (i : Int).tmod 2 == 1 then 2 * (bt s (s.size - 1 - i) - 48) - 9 * ((bt s (s.size - 1 - i) - 48) / 5) else bt s (s.size - 1 - i) - 48 := by
      have e : ((i : Int).tmod 2 == 1) = ((s.size - (s.size - 1 - i)) % 2 == 0) := by
        rw [Int.tmod_eq_emod_of_nonneg (by omega)]
        rw [Bool.eq_iff_iff]; simp only [beq_iff_eq]; omega
      rw [e]
      unfold term
      cases ((s.size - (s.size - 1 - i)) % 2 == 0) with
      | false => rfl
      | true =>
        simp only [cond_true]
        by_cases hx : 2 * (bt s (s.size - 1 - i) - 48) > 9
        · rw [decide_eq_true hx]; simp only [cond_true]; omega
        · rw [decide_eq_false hx]; simp only [cond_false]; omega
    have hbi := hb i (by omega)
    have hbt := term_bound hd (j := s.size - 1 - i) (by omega)
    simp only [digit_sum.t5, h3, h4, Int.toNat_natCast, sumTo, h2]
    rw [h5] at hbt ⊢
    generalize sumTo (fun j => term s (s.size - 1 - j)) i = T at hbi ⊢
    generalize bt s (s.size - 1 - i) = d at h1 hbt ⊢
    have w1 : IntKind.wrap .u8 (d - 48) = d - 48 := by rw [wrap_u8]; omega
    have w2 : IntKind.wrap .i64 (d - 48) = d - 48 := wrap_i64 (by omega) (by omega)
    have w3 : IntKind.wrap .i64 (2 * (d - 48)) = 2 * (d - 48) := wrap_i64 (by omega) (by omega)
    have w4 : Int.tdiv (d - 48) 5 = (d - 48) / 5 := Int.tdiv_eq_ediv_of_nonneg (by omega)
    have w5 : IntKind.wrap .i64 ((d - 48) / 5) = (d - 48) / 5 := wrap_i64 (by omega) (by omega)
    have w6 : IntKind.wrap .i64 (9 * ((d - 48) / 5)) = 9 * ((d - 48) / 5) := wrap_i64 (by omega) (by omega)
    have w7 : IntKind.wrap .i64 (2 * (d - 48) - 9 * ((d - 48) / 5)) = 2 * (d - 48) - 9 * ((d - 48) / 5) := wrap_i64 (by omega) (by omega)
    have w8 : IntKind.wrap .i64 (T + (2 * (d - 48) - 9 * ((d - 48) / 5))) = T + (2 * (d - 48) - 9 * ((d - 48) / 5)) := wrap_i64 (by omega) (by omega)
    have w9 : IntKind.wrap .i64 (T + (d - 48)) = T + (d - 48) := wrap_i64 (by omega) (by omega)
    rw [w1, w2, w3, w4, w5, w6, w7, w8, w9]
    have g1 : decide ((i : Int) < (s.size : Int)) = true := decide_eq_true (by omega)
    have g2 : decide ((0 : Int) ≤ ((s.size - 1 - i : Nat) : Int)) = true := decide_eq_true (by omega)
    have g3 : decide (((s.size - 1 - i : Nat) : Int) < (s.size : Int)) = true := decide_eq_true (by omega)
    rw [g1, g2, g3]
    cases ((i : Int).tmod 2 == 1) <;> rfl)
  unfold digit_sum.f digit_sum.l5
  have h0 : (s, ((0 : Int), ((s.size : Int), (0 : Int)))) = (s, (sumTo (fun j => term s (s.size - 1 - j)) 0, ((s.size : Int), ((0 : Nat) : Int)))) := rfl
  rw [h0, h, sumTo_back, rounds_end (r := luhn s) (by simp [digit_sum.t5, luhn])]
  rfl
theorem digit_Sound_is (s : ByteArray) (hs : s.size ≤ 576460752303423488) : digit_Sound.f s = some (decide (2 ≤ s.size) && (digitsB s && (luhn s % 10 == 0))) := by
  have hl : digitsB s = true → 0 ≤ luhn s := fun hd => (sumTo_bound (f := term s) (b := 9) (n := s.size) fun j hj => term_bound hd hj).1
  unfold digit_Sound.f
  rw [digit_All_is s (by omega)]
  by_cases h2 : 2 ≤ s.size
  · rw [show decide ((s.size : Int) ≥ 2) = true from decide_eq_true (by omega), decide_eq_true h2]
    cases hd : digitsB s with
    | false => rfl
    | true => simp only [Option.bind_some, cond_true, digit_sum_is s hs hd, Bool.true_and, Int.tmod_eq_emod_of_nonneg (hl hd)]
  · rw [show decide ((s.size : Int) ≥ 2) = false from decide_eq_false (by omega), decide_eq_false h2]; rfl
end Go.Proofs.YtopoklifappmcaaGreatDoor
end
section
set_option linter.unusedVariables false
set_option maxRecDepth 100000
namespace Go.Proofs.YtopoklifappmcaaGreatDoor
open Go Go.Fw
abbrev hold_until.As : Shs := (.cons (.x (.i .i64)) .nil)
abbrev hold_until.m : Back := [(false, .b)]
noncomputable abbrev hold_until.H : HK := hk P G0 E0 J0 [] noLoops 4
theorem hold_until.rows : TabOK P G0 (tabF []) := rows_ok (ws := []) trivial
theorem hold_until.hok : HKOK P hold_until.H := hk_ok e0_ok j0_ok hold_until.rows (fun g n => noLoops_ok g n) 4
noncomputable def hold_until.f (a : Int) : Option Bool := (bif (decide ((a ≥ (0 : Int)))) then (some (decide ((a ≤ (2147483647 : Int))))) else (some false))
theorem hold_until.ok : ∀ a : Vals hold_until.As.tys, fnK P hold_until.H (lp []) 109 hold_until.As hold_until.m a some = hold_until.f a := fun a => by kernel_rfl
noncomputable abbrev hold_until.row : Row := fnRow 109 hold_until.As hold_until.m hold_until.f
theorem hold_until.row_ok : RowOK P G0 hold_until.row := row_told hold_until.hok (lp_of (l := []) trivial) (fun _ => rfl) hold_until.ok
abbrev hold_Ref.As : Shs := (.cons (.x .s) .nil)
abbrev hold_Ref.m : Back := [(false, .b)]
noncomputable abbrev hold_Ref.H : HK := hk P G0 E0 J0 [] noLoops 4
theorem hold_Ref.rows : TabOK P G0 (tabF []) := rows_ok (ws := []) trivial
theorem hold_Ref.hok : HKOK P hold_Ref.H := hk_ok e0_ok j0_ok hold_Ref.rows (fun g n => noLoops_ok g n) 4
noncomputable abbrev hold_Ref.sh3 : SSh := ⟨[(0, (.x .s)), (6, (.x (.i .i64))), (7, (.x (.i .i64)))], []⟩
noncomputable abbrev hold_Ref.os3 : PEnds := [(.ret, ⟨[(2, (.x .b))], []⟩), ((.exit 0), ⟨[(0, (.x .s))], []⟩)]
noncomputable def hold_Ref.t3 (s : (ByteArray × (Int × Int))) : Option ((ByteArray × (Int × Int)) ⊕ (Bool ⊕ ByteArray)) := (bif (decide ((s.2.2 < s.2.1))) then (bif ((decide (((0 : Int) ≤ s.2.2))) && (decide ((s.2.2 < (s.1.size : Int))))) then (bif (decide (((bt s.1 (Int.toNat s.2.2)) < (48 : Int)))) then (bif (decide (((bt s.1 (Int.toNat s.2.2)) < (65 : Int)))) then (some (.inr (.inl false))) else (bif (decide (((bt s.1 (Int.toNat s.2.2)) > (90 : Int)))) then (some (.inr (.inl false))) else (some (.inl (s.1, (s.2.1, (IntKind.wrap .i64 (s.2.2 + (1 : Int))))))))) else (bif (decide (((bt s.1 (Int.toNat s.2.2)) > (57 : Int)))) then (bif (decide (((bt s.1 (Int.toNat s.2.2)) < (65 : Int)))) then (some (.inr (.inl false))) else (bif (decide (((bt s.1 (Int.toNat s.2.2)) > (90 : Int)))) then (some (.inr (.inl false))) else (some (.inl (s.1, (s.2.1, (IntKind.wrap .i64 (s.2.2 + (1 : Int))))))))) else (some (.inl (s.1, (s.2.1, (IntKind.wrap .i64 (s.2.2 + (1 : Int))))))))) else none) else (some (.inr (.inr s.1))))
theorem hold_Ref.t3_ok : ∀ s : Vals hold_Ref.sh3.tys, turnK P hold_Ref.H (lp []) (bodyAt (codeOf P 106) 3) 0 hold_Ref.sh3 hold_Ref.os3 s some = hold_Ref.t3 s := fun s => by kernel_rfl
noncomputable def hold_Ref.l3 : (ByteArray × (Int × Int)) → Option (Bool ⊕ ByteArray) := rounds hold_Ref.t3
noncomputable def hold_Ref.f (a : ByteArray) : Option Bool := (((hold_Ref.l3 (a, ((a.size : Int), (0 : Int))))).bind fun x1 => (match x1 with | .inl x2 => (some x2) | .inr x2 => (some ((x2.size : Int) == (12 : Int)))))
theorem hold_Ref.ok : ∀ a : Vals hold_Ref.As.tys, fnK P hold_Ref.H (lp [(3, (NodeT.summ ⟨hold_Ref.sh3, hold_Ref.os3, hold_Ref.l3⟩ 0))]) 106 hold_Ref.As hold_Ref.m a some = hold_Ref.f a := fun a => by kernel_rfl
noncomputable abbrev hold_Ref.row : Row := fnRow 106 hold_Ref.As hold_Ref.m hold_Ref.f
theorem hold_Ref.row_ok : RowOK P G0 hold_Ref.row := row_told hold_Ref.hok (lp_of (l := [(3, (NodeT.summ ⟨hold_Ref.sh3, hold_Ref.os3, hold_Ref.l3⟩ 0))]) ⟨(loop_sum hold_Ref.hok (by kernel_rfl) (by kernel_rfl) (l := []) trivial hold_Ref.sh3 hold_Ref.os3 (by kernel_rfl) hold_Ref.t3 hold_Ref.t3_ok), trivial⟩) (fun _ => rfl) hold_Ref.ok
abbrev chart_May.As : Shs := (.cons (.x T_api_Account) .nil)
abbrev chart_May.m : Back := [(false, .b)]
noncomputable abbrev chart_May.H : HK := hk P G0 E0 J0 [digit_All.row, digit_Sound.row] noLoops 4
theorem chart_May.rows : TabOK P G0 (tabF [digit_All.row, digit_Sound.row]) := rows_ok (ws := [digit_All.row, digit_Sound.row]) ⟨digit_All.row_ok, ⟨digit_Sound.row_ok, trivial⟩⟩
theorem chart_May.hok : HKOK P chart_May.H := hk_ok e0_ok j0_ok chart_May.rows (fun g n => noLoops_ok g n) 4
noncomputable def chart_May.f (a : (Int × ByteArray)) : Option Bool := (bif (a.1 == (1 : Int)) then (bif ((a.2.size : Int) == (16 : Int)) then (((digit_Sound.f a.2)).bind fun x1 => (some x1)) else (some false)) else (bif (a.1 == (2 : Int)) then (bif ((a.2.size : Int) == (6 : Int)) then (((digit_All.f a.2)).bind fun x1 => (some x1)) else (some false)) else (bif (a.1 == (3 : Int)) then (bif (a.1 == (3 : Int)) then (some ((ByteArray.toList a.2) == [])) else (some false)) else (bif (a.1 == (4 : Int)) then (some ((ByteArray.toList a.2) == [])) else (some false)))))
theorem chart_May.ok : ∀ a : Vals chart_May.As.tys, fnK P chart_May.H (lp []) 108 chart_May.As chart_May.m a some = chart_May.f a := fun a => by kernel_rfl
noncomputable abbrev chart_May.row : Row := fnRow 108 chart_May.As chart_May.m chart_May.f
theorem chart_May.row_ok : RowOK P G0 chart_May.row := row_told chart_May.hok (lp_of (l := []) trivial) (fun _ => rfl) chart_May.ok
abbrev hold_May.As : Shs := (.cons (.x T_api_Hold) .nil)
abbrev hold_May.m : Back := [(false, .b)]
noncomputable abbrev hold_May.H : HK := hk P G0 E0 J0 [hold_Ref.row, chart_May.row, hold_until.row] noLoops 4
theorem hold_May.rows : TabOK P G0 (tabF [hold_Ref.row, chart_May.row, hold_until.row]) := rows_ok (ws := [hold_Ref.row, chart_May.row, hold_until.row]) ⟨hold_Ref.row_ok, ⟨chart_May.row_ok, ⟨hold_until.row_ok, trivial⟩⟩⟩
theorem hold_May.hok : HKOK P hold_May.H := hk_ok e0_ok j0_ok hold_May.rows (fun g n => noLoops_ok g n) 4
noncomputable def hold_May.f (a : (ByteArray × (ByteArray × (ByteArray × (Int × (Int × (Int × Bool))))))) : Option Bool := (((hold_Ref.f a.1)).bind fun x1 => (bif (!x1) then (some false) else (((chart_May.f ((1 : Int), a.2.2.1))).bind fun x2 => (bif (!x2) then (some false) else (((chart_May.f ((2 : Int), a.2.1))).bind fun x3 => (bif (!x3) then (some false) else (((hold_until.f a.2.2.2.2.2.1)).bind fun x4 => (bif (!x4) then (some false) else (bif (decide ((a.2.2.2.2.1 ≥ (0 : Int)))) then (bif (decide ((a.2.2.2.2.1 ≤ a.2.2.2.1))) then (bif (!a.2.2.2.2.2.2) then (some true) else (some (decide ((a.2.2.2.2.1 < a.2.2.2.1))))) else (some false)) else (some false))))))))))
theorem hold_May.ok : ∀ a : Vals hold_May.As.tys, fnK P hold_May.H (lp []) 56 hold_May.As hold_May.m a some = hold_May.f a := fun a => by kernel_rfl
noncomputable abbrev hold_May.row : Row := fnRow 56 hold_May.As hold_May.m hold_May.f
theorem hold_May.row_ok : RowOK P G0 hold_May.row := row_told hold_May.hok (lp_of (l := []) trivial) (fun _ => rfl) hold_May.ok
end Go.Proofs.YtopoklifappmcaaGreatDoor
end
section
set_option linter.unusedVariables false
set_option linter.unusedSimpArgs false
namespace Go.Proofs.YtopoklifappmcaaGreatDoor
open Go Go.Fw
def refC (s : ByteArray) (i : Nat) : Bool := (decide (48 ≤ bt s i) && decide (bt s i ≤ 57)) || (decide (65 ≤ bt s i) && decide (bt s i ≤ 90))
def refB (s : ByteArray) : Bool := s.size == 12 && (List.range s.size).all (refC s)
theorem hold_Ref_is (s : ByteArray) (hs : s.size ≤ 4611686018427387904) : hold_Ref.f s = some (refB s) := by
  have h := rounds_all (t := hold_Ref.t3) (fun i => (s, ((s.size : Int), (i : Int)))) (refC s) (.inl false) (.inr s) s.size (fun i hi => by
    have := bt_bound s i
    have := wrap_up (n := i) (by omega)
    grind [hold_Ref.t3, refC]) (by simp [hold_Ref.t3])
  unfold hold_Ref.f hold_Ref.l3
  rw [show ((0 : Int)) = ((0 : Nat) : Int) from rfl, h]
  unfold refB
  have e : ((s.size : Int) == 12) = (s.size == 12) := by rw [Bool.eq_iff_iff]; simp only [beq_iff_eq]; omega
  cases (List.range s.size).all (refC s) <;> simp [e]
def soundB (s : ByteArray) : Bool := decide (2 ≤ s.size) && (digitsB s && (luhn s % 10 == 0))
def cardB (s : ByteArray) : Bool := s.size == 16 && soundB s
def acqB (s : ByteArray) : Bool := s.size == 6 && digitsB s
theorem size_is {s : ByteArray} (n : Nat) : ((s.size : Int) == (n : Int)) = (s.size == n) := by rw [Bool.eq_iff_iff]; simp only [beq_iff_eq]; omega
theorem card_is (s : ByteArray) : chart_May.f (1, s) = some (cardB s) := by
  have e := size_is (s := s) 16
  unfold chart_May.f cardB
  by_cases h : s.size = 16
  · have := digit_Sound_is s (by omega)
    rw [show ((s.size : Int) == 16) = true from by simp; omega, show (s.size == 16) = true from by simp [h]]
    simp only [this, beq_self_eq_true, cond_true, Option.bind_some, Bool.true_and]
    rfl
  · rw [show ((s.size : Int) == 16) = false from by simp; omega, show (s.size == 16) = false from by simp [h]]
    rfl
theorem acq_is (s : ByteArray) : chart_May.f (2, s) = some (acqB s) := by
  unfold chart_May.f acqB
  by_cases h : s.size = 6
  · have := digit_All_is s (by omega)
    rw [show ((s.size : Int) == 6) = true from by simp; omega, show (s.size == 6) = true from by simp [h]]
    simp [this]
  · rw [show ((s.size : Int) == 6) = false from by simp; omega, show (s.size == 6) = false from by simp [h]]
    rfl
abbrev Hd := ByteArray × (ByteArray × (ByteArray × (Int × (Int × (Int × Bool)))))
def untilB (n : Int) : Bool := decide (0 ≤ n) && decide (n ≤ 2147483647)
def mayB (h : Hd) : Bool := refB h.1 && (cardB h.2.2.1 && (acqB h.2.1 && (untilB h.2.2.2.2.2.1 && (decide (0 ≤ h.2.2.2.2.1) && (decide (h.2.2.2.2.1 ≤ h.2.2.2.1) && (!h.2.2.2.2.2.2 || decide (h.2.2.2.2.1 < h.2.2.2.1)))))))
theorem until_is (n : Int) : hold_until.f n = some (untilB n) := by
  grind [hold_until.f, untilB]
theorem hold_May_is (h : Hd) (hs : h.1.size ≤ 4611686018427387904) : hold_May.f h = some (mayB h) := by
  unfold hold_May.f mayB
  rw [hold_Ref_is _ hs, card_is, acq_is, until_is]
  cases refB h.1
  · rfl
  cases cardB h.2.2.1
  · rfl
  cases acqB h.2.1
  · rfl
  cases untilB h.2.2.2.2.2.1
  · rfl
  cases h.2.2.2.2.2.2 <;> grind
end Go.Proofs.YtopoklifappmcaaGreatDoor
end
section
set_option linter.unusedVariables false
set_option linter.unusedSimpArgs false
namespace Go.Fw
open Go
theorem eq_bs (s : ByteArray) : s = bs s.data.toList := by cases s; simp [bs]
theorem bs_list (l : List UInt8) : (bs l).data.toList = l := by simp [bs]
theorem bs_toList (l : List UInt8) : (bs l).toList = l := by rw [ByteArray.toList_eq, bs_list]
theorem bs_size (l : List UInt8) : (bs l).size = l.length := by show (bs l).data.size = _; simp [bs]
theorem bs_append (l r : List UInt8) : bs l ++ bs r = bs (l ++ r) := by
  apply ByteArray.ext
  rw [ByteArray.data_append]
  simp [bs]
theorem bs_extract (l : List UInt8) (i j : Nat) : (bs l).extract i j = bs ((l.take j).drop i) := by
  apply ByteArray.ext
  rw [ByteArray.data_extract]
  apply Array.toList_inj.1
  simp [bs, List.extract_eq_take_drop, List.drop_take]
theorem bt_bs (l : List UInt8) (i : Nat) : bt (bs l) i = ((l.getD i 0).toNat : Int) := by unfold bt; rw [bs_list]
theorem bs_inj {l r : List UInt8} : bs l = bs r ↔ l = r := ⟨fun h => by rw [← bs_list l, h, bs_list], fun h => by rw [h]⟩
theorem texts_eq (x y : ByteArray) : (ByteArray.toList x == ByteArray.toList y) = decide (x = y) := by
  rw [ByteArray.toList_eq, ByteArray.toList_eq, Bool.eq_iff_iff, beq_iff_eq, decide_eq_true_iff]
  constructor
  · intro h
    cases x; cases y
    simp only [Array.toList_inj] at h
    rw [h]
  · intro h; rw [h]
theorem texts_list (x : ByteArray) (l : List UInt8) : (ByteArray.toList x == l) = decide (x = bs l) := by
  rw [← texts_eq, bs_toList]
theorem texts_nil (x : ByteArray) : (ByteArray.toList x == []) = decide (x = bs []) := by
  rw [← texts_eq, bs_toList]
abbrev dgt (n : Nat) : UInt8 := UInt8.ofNat (48 + n)
theorem dgt_nat {n : Nat} (h : n < 10) : (dgt n).toNat = 48 + n := by simp [dgt, UInt8.toNat_ofNat']; omega
def decP : Nat → Nat → List UInt8
  | 0, _ => []
  | k + 1, n => if n = 0 then [] else decP k (n / 10) ++ [dgt (n % 10)]
theorem decF_decP : ∀ (k n : Nat), n < 10 ^ (k + 1) → decF (k + 1) n = decP k (n / 10) ++ [dgt (n % 10)]
  | 0, n, h => by
    have h' : n < 10 := by simpa using h
    have hb : Nat.blt n 10 = true := by rw [Nat.blt_eq]; exact h'
    unfold decF decP
    simp only [hb, cond_true, List.nil_append]
    rw [show n % 10 = n by omega]
  | k + 1, n, h => by
    unfold decF decP
    by_cases h' : n < 10
    · have hb : Nat.blt n 10 = true := by rw [Nat.blt_eq]; exact h'
      simp only [hb, cond_true]
      rw [if_pos (by omega), show n % 10 = n by omega]; rfl
    · have hb : Nat.blt n 10 = false := by
        cases hb : Nat.blt n 10
        · rfl
        · rw [Nat.blt_eq] at hb; omega
      simp only [hb, cond_false]
      rw [if_neg (by omega), decF_decP k (n / 10) (by have : 10 ^ (k + 1 + 1) = 10 ^ (k + 1) * 10 := Nat.pow_succ ..; omega)]
theorem decP_len : ∀ (k n : Nat), (decP k n).length ≤ k
  | 0, _ => by simp [decP]
  | k + 1, n => by
    unfold decP
    split
    · simp
    · have := decP_len k (n / 10); simp; omega
theorem decP_dig : ∀ (k n : Nat) (c : UInt8), c ∈ decP k n → 48 ≤ c.toNat ∧ c.toNat ≤ 57
  | 0, _, c, h => by simp [decP] at h
  | k + 1, n, c, h => by
    unfold decP at h
    split at h
    · simp at h
    · rcases List.mem_append.1 h with h | h
      · exact decP_dig k _ c h
      · rw [List.mem_singleton.1 h, dgt_nat (by omega)]; omega
theorem parse_decP (M : Nat) : ∀ (k n : Nat) (t : List UInt8), n < 10 ^ k → n < 18446744073709551616 → n ≤ M → Lib.parseUintM M 0 (decP k n ++ t) = Lib.parseUintM M n t
  | 0, n, t, h, _, _ => by
    have : n = 0 := by simpa using h
    subst this; rfl
  | k + 1, n, t, h, h2, h3 => by
    unfold decP
    split
    · rename_i h0; subst h0; rfl
    · rw [List.append_assoc, parse_decP M k (n / 10) _ (by have : 10 ^ (k + 1) = 10 ^ k * 10 := Nat.pow_succ ..; omega) (by omega) (by omega)]
      have hd := dgt_nat (n := n % 10) (by omega)
      conv => lhs; unfold Lib.parseUintM
      simp only [List.singleton_append, hd]
      rw [if_pos (by omega), if_neg (by omega), if_neg (by omega)]
      congr 1
      omega
theorem parse_dig {M acc n : Nat} {t : List UInt8} (h : n < 10) (h1 : acc * 10 + n ≤ M) (h2 : acc * 10 < 18446744073709551610) : Lib.parseUintM M acc (dgt n :: t) = Lib.parseUintM M (acc * 10 + n) t := by
  have hd := dgt_nat h
  conv => lhs; unfold Lib.parseUintM
  simp only [hd]
  rw [if_pos (by omega), if_neg (by omega), if_neg (by omega)]
  congr 1
  omega
theorem indexByte_skip (c : UInt8) : ∀ (l t : List UInt8), (∀ x, x ∈ l → x ≠ c) → Lib.indexByte (l ++ c :: t) c = l.length
  | [], t, _ => by simp [Lib.indexByte]
  | x :: l, t, h => by
    have hx : (x == c) = false := by simpa using h x (List.mem_cons_self ..)
    have ih := indexByte_skip c l t fun y hy => h y (List.mem_cons_of_mem _ hy)
    have hn : (Lib.indexByte (l ++ c :: t) c == -1) = false := by rw [ih]; simp only [beq_eq_false_iff_ne]; omega
    rw [List.cons_append, Lib.indexByte, hx]
    rw [if_neg (by simp), if_neg (by simp [hn]), ih]
    simp
theorem indexByte_lt (c : UInt8) : ∀ (l : List UInt8), Lib.indexByte l c < l.length
  | [] => by simp [Lib.indexByte]
  | x :: l => by
    have ih := indexByte_lt c l
    rw [Lib.indexByte]
    split
    · simp
    · split
      · simp; omega
      · simp; omega
end Go.Fw
end
section
set_option linter.unusedVariables false
set_option linter.unusedSimpArgs false
namespace Go.Fw
section
variable {S R : Type} {t : S → Option (S ⊕ R)}
theorem range_none {n k : Nat} {ex : Nat → Option R} (hk : k ≤ n) (h : ∀ j, j < k → ex j = none) : (List.range k).findSome? ex = none := by
  rw [List.findSome?_eq_none_iff]
  intro j hj
  exact h j (List.mem_range.1 hj)
theorem range_some {n k : Nat} {ex : Nat → Option R} {r : R} (hk : k < n) (h : ∀ j, j < k → ex j = none) (hr : ex k = some r) : (List.range n).findSome? ex = some r := by
  have e : List.range n = List.range k ++ k :: (List.range (n - k - 1)).map (· + (k + 1)) := by
    have h1 : n = k + (1 + (n - k - 1)) := by omega
    rw [h1, List.range_add, List.range_add]
    simp
    intro a _
    omega
  rw [e, List.findSome?_append, range_none (Nat.le_refl k) h]
  simp [hr]
theorem rounds_first (st : Nat → S) (ex : Nat → Option R) (fin : R) (n : Nat) (h : ∀ i, i < n → (∀ j, j < i → ex j = none) → t (st i) = some (match ex i with | some r => .inr r | none => .inl (st (i + 1))))
    (hf : (∀ j, j < n → ex j = none) → t (st n) = some (.inr fin)) : rounds t (st 0) = some (((List.range n).findSome? ex).getD fin) := by
  have go : ∀ k, k ≤ n → (∀ j, j < k → ex j = none) → rounds t (st 0) = rounds t (st k) := by
    intro k
    induction k with
    | zero => intro _ _; rfl
    | succ k ih =>
      intro hk hj
      rw [ih (by omega) fun j h => hj j (by omega)]
      have h1 := h k (by omega) fun j h => hj j (by omega)
      rw [hj k (by omega)] at h1
      exact rounds_next h1
  by_cases ha : ∀ j, j < n → ex j = none
  · rw [go n (Nat.le_refl _) ha, rounds_end (hf ha), range_none (Nat.le_refl n) ha]
    rfl
  · have hex : ∃ k, k < n ∧ (∀ j, j < k → ex j = none) ∧ ∃ r, ex k = some r := by
      clear h hf go
      induction n with
      | zero => exact absurd (fun j hj => by omega) ha
      | succ n ih =>
        by_cases h' : ∀ j, j < n → ex j = none
        · cases hn : ex n with
          | none => exact absurd (fun j hj => by
              by_cases e : j = n
              · rw [e]; exact hn
              · exact h' j (by omega)) ha
          | some r => exact ⟨n, by omega, h', r, hn⟩
        · obtain ⟨k, h1, h2⟩ := ih h'
          exact ⟨k, by omega, h2⟩
    obtain ⟨k, hk, hj, r, hr⟩ := hex
    have h1 := h k hk hj
    rw [hr] at h1
    rw [go k (by omega) hj, rounds_end h1, range_some hk hj hr]
    rfl
theorem rounds_map {α β : Type} (l : List α) (d : α) (g : α → β) (st : List β → Nat → S) (out : List β → R) (h : ∀ i, i < l.length → t (st ((l.take i).map g) i) = some (.inl (st ((l.take i).map g ++ [g (l.getD i d)]) (i + 1))))
    (hf : ∀ acc, acc = l.map g → t (st acc l.length) = some (.inr (out acc))) : rounds t (st [] 0) = some (out (l.map g)) := by
  have := rounds_to (t := t) (fun i => st ((l.take i).map g) i) l.length (fun i hi => by
    rw [h i hi, take_up d hi, List.map_append]; rfl)
  simp only [List.take_zero, List.map_nil, List.take_length] at this
  rw [this]
  exact rounds_end (hf _ rfl)
end
theorem ge0' (i : Nat) : decide ((0 : Int) ≤ (i : Int)) = true := decide_eq_true (by omega)
theorem inb {i n : Nat} (h : i < n) : decide (((i : Nat) : Int) < ((n : Nat) : Int)) = true := decide_eq_true (by omega)
theorem outb (n : Nat) : decide (((n : Nat) : Int) < ((n : Nat) : Int)) = false := decide_eq_false (by omega)
theorem find_not {β : Type} {n : Nat} {p : Nat → Bool} {g : Nat → β} : (∃ i, i < n ∧ (List.range n).findSome? (fun i => bif p i then none else some (g i)) = some (g i) ∧ (List.range n).all p = false) ∨ ((List.range n).findSome? (fun i => bif p i then none else some (g i)) = none ∧ (List.range n).all p = true) := by
  cases hq : (List.range n).findSome? (fun i => bif p i then none else some (g i)) with
  | none =>
    right
    refine ⟨rfl, ?_⟩
    rw [List.all_eq_true]
    intro i hi
    have := (List.findSome?_eq_none_iff.1 hq) i hi
    cases hb : p i
    · rw [hb] at this; cases this
    · rfl
  | some r =>
    left
    obtain ⟨i, hi, hr⟩ := List.exists_of_findSome?_eq_some hq
    cases hb : p i <;> rw [hb] at hr
    · injection hr with hr
      refine ⟨i, List.mem_range.1 hi, by rw [hr], ?_⟩
      rw [← Bool.not_eq_true, List.all_eq_true]
      intro h
      rw [h i hi] at hb
      cases hb
    · cases hr
end Go.Fw
end
section
set_option linter.unusedVariables false
set_option linter.unusedSimpArgs false
namespace Go.Proofs.YtopoklifappmcaaGreatDoor
open Go Go.Fw
theorem rune_low {s : ByteArray} {i : Nat} (hi : i < s.size) (h : (s.data.toList.getD i 0).toNat < 128) : runeD s i = ((s.data.toList.getD i 0).toNat, 1) := by
  have e : s.data.toList.getD i 0 = s[i]'hi := by
    rw [List.getD_eq_getElem?_getD, Array.getElem?_toList, Array.getElem?_eq_getElem (by simpa using hi)]
    rfl
  rw [e] at h ⊢
  exact Go.decode_ascii s i hi h
theorem rune_high {s : ByteArray} {i : Nat} (hi : i < s.size) (h : 128 ≤ (s.data.toList.getD i 0).toNat) : 127 < (runeD s i).1 := by
  have e : s.data.toList.getD i 0 = s.get! (i + 0) := by
    rw [List.getD_eq_getElem?_getD, Array.getElem?_toList]
    show _ = s.data.get!Internal (i + 0)
    simp [Array.get!Internal, Array.getD]
    rw [dif_pos (by simpa using hi), Array.getElem?_eq_getElem (by simpa using hi)]
    rfl
  rw [e] at h
  unfold runeD Utf8.decode
  simp only
  rw [if_neg (by omega)]
  split
  · split
    · omega
    · decide
  · split
    · split
      · rename_i h'
        simp only [Bool.and_eq_true, decide_eq_true_eq] at h'
        omega
      · decide
    · split
      · split
        · rename_i h'
          simp only [Bool.and_eq_true, decide_eq_true_eq] at h'
          omega
        · decide
      · decide

theorem keyS_eq (a b : ByteArray) : Ty.eqb .s a b = decide (a = b) := by
  show (ByteArray.toList a == ByteArray.toList b) = _
  rw [texts_eq]
theorem mgetS_mput (k k' : ByteArray) (v : Bool) : ∀ l : List (ByteArray × Bool), mget .s .b (mput .s .b l k v) k' = if k' = k then some v else mget .s .b l k'
  | [] => by
    simp only [mput, mget, keyS_eq]
    by_cases h : k' = k
    · rw [if_pos h, decide_eq_true h]; rfl
    · rw [if_neg h, decide_eq_false h]; rfl
  | e :: l => by
    have ih := mgetS_mput k k' v l
    simp only [mput, keyS_eq]
    by_cases h1 : k = e.1
    · rw [decide_eq_true h1]
      simp only [cond_true, mget, keyS_eq]
      by_cases h : k' = k
      · rw [if_pos h, decide_eq_true h]; rfl
      · rw [if_neg h, decide_eq_false h, decide_eq_false (fun h2 => h (h2.trans h1.symm))]; rfl
    · rw [decide_eq_false h1]
      simp only [cond_false, mget, keyS_eq, ih]
      by_cases h : k' = e.1
      · have hne : ¬ k' = k := fun h2 => h1 (h2.symm.trans h)
        rw [if_neg hne, if_neg hne]
      · rw [decide_eq_false h]; rfl
def metT {α : Type} (key : α → ByteArray) (d : α) (l : List α) : Nat → List (ByteArray × Bool)
  | 0 => []
  | i + 1 => mput .s .b (metT key d l i) (key (l.getD i d)) true
theorem metT_is {α : Type} (key : α → ByteArray) (d : α) (l : List α) (k : ByteArray) : ∀ i, mgetD .s .b (metT key d l i) k false = (List.range i).any fun j => decide (key (l.getD j d) = k)
  | 0 => rfl
  | i + 1 => by
    have ih := metT_is key d l k i
    unfold mgetD at ih ⊢
    rw [metT, mgetS_mput, List.range_succ, List.any_append, ← ih]
    by_cases h : k = key (l.getD i d)
    · rw [if_pos h]; simp [h]
    · rw [if_neg h]
      have : decide (key (l.getD i d) = k) = false := decide_eq_false fun h2 => h h2.symm
      rw [List.any_cons, List.any_nil, this, Bool.or_false, Bool.or_false]
end Go.Proofs.YtopoklifappmcaaGreatDoor
end
section
namespace Go.Proofs
open Go.Shelf
def Tryz.lays283_ren : Go.Shelf.Ren := ⟨fun | 283 => 194 | n => n, fun | 3 => 3 | 9 => 9 | 4 => 4 | n => n, fun | n => n⟩
theorem Tryz.lays283 : Go.Proofs.Lays.n283 Tryz.prog Tryz.lays283_ren := {
  mixed := by kernel_rfl
  f283 := Tryz.func194.trans (congrArg some (by kernel_rfl))
  t3 := Tryz.underlying3
  a3 := Tryz.isAgg3
  z3 := Tryz.sizeOf3
  v3 := Tryz.zeroValue3
  t4 := Tryz.underlying4
  a4 := Tryz.isAgg4
  z4 := Tryz.sizeOf4
  v4 := Tryz.zeroValue4
  t9 := Tryz.underlying9
  a9 := Tryz.isAgg9
  z9 := Tryz.sizeOf9
  v9 := Tryz.zeroValue9 }
def Tryz.laysM284_ren : Go.Shelf.Ren := ⟨fun | 284 => 195 | 129 => 140 | 317 => 216 | 318 => 217 | n => n, fun | 53 => 128 | 3 => 3 | 212 => 239 | 0 => 0 | 4 => 4 | 46 => 138 | 5 => 5 | 9 => 9 | n => n, fun | 17 => 3 | n => n⟩
theorem Tryz.laysM284 : Go.Proofs.LaysM.n284 Tryz.prog Tryz.laysM284_ren := {
  mixed := by kernel_rfl
  f129 := Tryz.func140.trans (congrArg some (by kernel_rfl))
  f284 := Tryz.func195.trans (congrArg some (by kernel_rfl))
  f317 := Tryz.func216.trans (congrArg some (by kernel_rfl))
  f318 := Tryz.func217.trans (congrArg some (by kernel_rfl))
  t0 := Tryz.underlying0
  a0 := Tryz.isAgg0
  z0 := Tryz.sizeOf0
  v0 := Tryz.zeroValue0
  t3 := Tryz.underlying3
  a3 := Tryz.isAgg3
  z3 := Tryz.sizeOf3
  v3 := Tryz.zeroValue3
  t4 := Tryz.underlying4
  a4 := Tryz.isAgg4
  z4 := Tryz.sizeOf4
  v4 := Tryz.zeroValue4
  t5 := Tryz.underlying5
  a5 := Tryz.isAgg5
  z5 := Tryz.sizeOf5
  v5 := Tryz.zeroValue5
  t9 := Tryz.underlying9
  a9 := Tryz.isAgg9
  z9 := Tryz.sizeOf9
  v9 := Tryz.zeroValue9
  t46 := Tryz.underlying138
  a46 := Tryz.isAgg138
  z46 := Tryz.sizeOf138
  v46 := Tryz.zeroValue138
  t53 := Tryz.underlying128
  a53 := Tryz.isAgg128
  z53 := Tryz.sizeOf128
  v53 := Tryz.zeroValue128
  t212 := Tryz.underlying239
  a212 := Tryz.isAgg239
  z212 := Tryz.sizeOf239
  v212 := Tryz.zeroValue239
  g17 := by kernel_rfl
  i0 := by kernel_rfl
  i3 := by kernel_rfl
  i4 := by kernel_rfl
  i5 := by kernel_rfl
  i9 := by kernel_rfl
  i46 := by kernel_rfl
  i53 := by kernel_rfl
  i212 := by kernel_rfl
  m17 := by kernel_rfl }
def Tryz.lays285_ren : Go.Shelf.Ren := ⟨fun | 285 => 196 | n => n, fun | 37 => 178 | 53 => 128 | 3 => 3 | 4 => 4 | 51 => 173 | 9 => 9 | 5 => 5 | 0 => 0 | n => n, fun | n => n⟩
theorem Tryz.lays285 : Go.Proofs.Lays.n285 Tryz.prog Tryz.lays285_ren := {
  mixed := by kernel_rfl
  f285 := Tryz.func196.trans (congrArg some (by kernel_rfl))
  t0 := Tryz.underlying0
  a0 := Tryz.isAgg0
  z0 := Tryz.sizeOf0
  v0 := Tryz.zeroValue0
  t3 := Tryz.underlying3
  a3 := Tryz.isAgg3
  z3 := Tryz.sizeOf3
  v3 := Tryz.zeroValue3
  t4 := Tryz.underlying4
  a4 := Tryz.isAgg4
  z4 := Tryz.sizeOf4
  v4 := Tryz.zeroValue4
  t5 := Tryz.underlying5
  a5 := Tryz.isAgg5
  z5 := Tryz.sizeOf5
  v5 := Tryz.zeroValue5
  t9 := Tryz.underlying9
  a9 := Tryz.isAgg9
  z9 := Tryz.sizeOf9
  v9 := Tryz.zeroValue9
  t37 := Tryz.underlying178
  a37 := Tryz.isAgg178
  z37 := Tryz.sizeOf178
  v37 := Tryz.zeroValue178
  t51 := Tryz.underlying173
  a51 := Tryz.isAgg173
  z51 := Tryz.sizeOf173
  v51 := Tryz.zeroValue173
  t53 := Tryz.underlying128
  a53 := Tryz.isAgg128
  z53 := Tryz.sizeOf128
  v53 := Tryz.zeroValue128 }
end Go.Proofs
end
section
set_option linter.unusedVariables false
namespace Go.Proofs
open Go.Shelf Go.RowKit Go.Sort Go.Lib
theorem Tryz.holds_zero0 (w : World) (T : TypeId) (nd : Nat) (hs : nd ≤ 24) : Holds (fun (b : UInt8) => Value.int .u8 (b.toNat : Int)) (w.alloc (.cells zeros24 T)) w.heap.size 0 (Array.replicate nd (0 : UInt8)) := fun j hj => by
  have hj' : j < nd := by simpa using hj
  refine ⟨?_, World.frozen?_alloc_new _ _ _ _⟩
  rw [World.cell?_alloc_new, zeros24_at _ (by omega), getElem!_pos _ j hj]
  simp
theorem Tryz.fin0 (w : World) (o : Obj) (dk : Array UInt8) (k : Nat) : ∃ os, (putRow (fun (b : UInt8) => Value.int .u8 (b.toNat : Int)) (w.alloc o) w.heap.size 0 dk).drewN k = grow (w.drewN k) os := by
  rw [alloc_eq_grow]
  obtain ⟨os', _, e⟩ := putRow_grow_new (fun (b : UInt8) => Value.int .u8 (b.toNat : Int)) w #[o] w.heap.size 0 dk (Nat.le_refl _)
  exact ⟨os', by rw [e]; rfl⟩
set_option maxHeartbeats 6400000 in
set_option maxRecDepth 100000 in
theorem Tryz.fmtUint_in (u : Nat) (hu64 : u < 18446744073709551616) (w : World) (htab : Lib.TabIs Tryz.prog w "internal/strconv.uint64pow10" .u64 Lib.pow10Tab) :
    Calls Tryz.prog 170 #[.int .u64 u, .int .i64 10] w fun e w' => e = .returned (.string ⟨(Lib.decDigits u).toArray⟩) ∧ ∃ k os, w' = grow (w.drewN k) os := by
  by_cases hs : u < 100
  · go_enter Tryz.func170, Tryz.ntmps170
    go_wp2_with (go_at_call 194; refine (Any.internal_strconv_small Tryz.lays283 u hs _).mono ?_; rintro e w' ⟨rfl, rfl⟩)
    go_ret
    exact ⟨rfl, 0, #[], by simp [World.drewN_zero]⟩
  · have hu1 : 1 ≤ u := by omega
    have hnd20 : Lib.nDigits u ≤ 20 := by have := Lib.numDigits_eq u hu1 hu64; split at this <;> omega
    have hb3 : Lib.nDigits u ≤ 24 := by omega
    have hal : Tryz.prog.arrayLen 221 = 24 := by kernel_rfl
    have hsl1 : ∀ W, (Instr.sliceAt 221 (.pointer (some ⟨w.heap.size, 0, none⟩)) none (some (.int .i64 (Lib.nDigits u : Int))) none).run Tryz.prog W = .ok (.slice (some ⟨w.heap.size, 0, none⟩) (Lib.nDigits u) 24) W := fun W => by
      rw [run_sliceAt_array_h W 221 ⟨w.heap.size, 0, none⟩ (by simp [Program.arrayLen, Program.elem, Tryz.underlying221]) .i64 (Lib.nDigits u : Int) (by omega) (by rw [hal]; omega)]
      go_simp
    have hH0 := Tryz.holds_zero0 w 221 (Lib.nDigits u) (by omega)
    have hfmt := Any.internal_strconv_formatBase10 Tryz.lays285 w.heap.size 0 24 u (Array.replicate (Lib.nDigits u) 0) (w.alloc (.cells Lib.zeros24 221)) hH0 (by rw [Array.size_replicate]; exact Lib.lt_pow_nDigits u) hu64 (by rw [Array.size_replicate]; omega)
    rw [Array.size_replicate] at hfmt
    have HH0 := Lib.hid hH0
    clear hH0 hal
    go_enter Tryz.func170, Tryz.ntmps170
    go_wp2_with (first
      | (go_at_call 195; refine (Any.internal_strconv_numDigits Tryz.laysM284 u hu1 hu64 _ (Lib.tabIs_alloc htab _)).mono ?_; rintro e w' ⟨rfl, rfl⟩))
    go_at_call 196
    refine hfmt.mono ?_
    rintro e w' ⟨rfl, k, v', dk, rfl, hF⟩
    have hcv : (convert 178 9 (.slice (some ⟨w.heap.size, 0, none⟩) (Lib.nDigits u) 24)).run Tryz.prog ((putRow (fun (b : UInt8) => Value.int .u8 (b.toNat : Int)) (w.alloc (.cells Lib.zeros24 221)) w.heap.size 0 dk).drewN k) = .ok (.string ⟨(Lib.decDigits u).toArray⟩) ((putRow (fun (b : UInt8) => Value.int .u8 (b.toNat : Int)) (w.alloc (.cells Lib.zeros24 221)) w.heap.size 0 dk).drewN k) := by
      have h := run_convert_bytes_back (P := Tryz.prog) ((putRow (fun (b : UInt8) => Value.int .u8 (b.toNat : Int)) (w.alloc (.cells Lib.zeros24 221)) w.heap.size 0 dk).drewN k) 178 9 5 ⟨w.heap.size, 0, none⟩ 24 (Lib.decDigits u) Tryz.underlying178 Tryz.underlying5 Tryz.underlying9 (fun j hj => by
        rw [Lib.row_is_numeral hF j hj, Lib.add_plain, World.cell?_drewN]
        exact cell?_putRow (fun (b : UInt8) => Value.int .u8 (b.toNat : Int)) _ w.heap.size 0 _ dk HH0.out (by rw [hF.size, Array.size_replicate]) j (by rw [hF.size]; rw [Lib.decDigits_length] at hj; exact hj))
      rw [Lib.decDigits_length] at h
      exact h
    go_wp2
    go_ret
    obtain ⟨os, eo⟩ := Tryz.fin0 w (.cells Lib.zeros24 221) dk k
    exact ⟨rfl, k, os, eo⟩
set_option maxRecDepth 100000 in
theorem Tryz.fmtUint (u : Nat) (hu64 : u < 18446744073709551616) (w : World) (htab : Lib.TabIs Tryz.prog w "internal/strconv.uint64pow10" .u64 Lib.pow10Tab) :
    Calls Tryz.prog 142 #[.int .u64 u, .int .i64 10] w fun e w' => e = .returned (.string ⟨(Lib.decDigits u).toArray⟩) ∧ ∃ k os, w' = grow (w.drewN k) os := by
  go_enter Tryz.func142, Tryz.ntmps142
  go_wp2_with (go_at_call 170; refine (Tryz.fmtUint_in u hu64 _ htab).mono ?_; rintro e w' ⟨rfl, k, os, rfl⟩)
  go_ret
  exact ⟨rfl, k, os, rfl⟩
end Go.Proofs
end
section
set_option linter.unusedVariables false
namespace Go.Proofs.YtopoklifappmcaaGreatDoor
open Go Go.Fw Go.RowKit
theorem grow_below (w : World) (k : Nat) (os : Array Obj) : Below w.heap.size w (Sort.grow (w.drewN k) os) := by
  have h : Below w.heap.size w (w.drewN k) := by
    induction k with
    | zero => rw [World.drewN_zero]; exact .refl _ _
    | succ k ih => exact ⟨rfl, rfl, rfl, Nat.le_refl _, fun _ _ => rfl⟩
  exact h.trans ⟨rfl, rfl, rfl, by simp [Sort.grow], fun i hi => by
    show ((w.drewN k).heap ++ os)[i]? = _
    rw [Array.getElem?_append, if_pos (Nat.lt_of_lt_of_le hi h.size)]⟩
theorem ent_of {g : FuncId} {fn : Func} (h : P.funcs[g]? = some fn) (hn : (fn.name == "runtime.NumGoroutine") = false) (hb : fn.body.isNone = false) : Fw.Enters P g := ⟨fn, h, hn, hb⟩
end Go.Proofs.YtopoklifappmcaaGreatDoor
end
section
set_option linter.unusedVariables false
namespace Go.Proofs.YtopoklifappmcaaGreatDoor
open Go Go.Fw Go.RowKit
abbrev strconv_FormatUint.As : Shs := .cons (.x (.i .u64)) (.cons (.x (.i .i64)) .nil)
abbrev strconv_FormatUint.m : Back := [(false, .s)]
abbrev strconv_FormatUint.f (a : (Int × Int)) : Option ByteArray := fmtU a
noncomputable abbrev strconv_FormatUint.row : Row := fnRow 142 strconv_FormatUint.As strconv_FormatUint.m strconv_FormatUint.f
theorem strconv_FormatUint.row_ok : RowOK P G0 strconv_FormatUint.row := by
  have key : ∀ (ds : List D) (a : Int × Int) (q : ByteArray), decArgs strconv_FormatUint.As ds = some a → strconv_FormatUint.f a = some q → Fw.Enters P 142 ∧ PCall P G0 142 ds (.s q) := by
    intro ds a q ha hq
    refine ⟨ent_of Tryz.func142 (by kernel_rfl) (by kernel_rfl), ?_⟩
    have hds := (decArgs_argD ha).symm
    refine PCall.coe (ds' := argD strconv_FormatUint.As a) ?_ (by rw [← hds]; exact coeA_len) fun w I f hf => by rw [← hds]; exact coeA_rel hf
    refine pcall_below fun w I K vs hg hsz hr => ?_
    have h0 := hr 0 (.i .u64 a.1) rfl
    have h1 := hr 1 (.i .i64 a.2) rfl
    have hvs : vs = #[.int .u64 a.1, .int .i64 a.2] := by
      have hs : vs.size = 2 := hsz
      rw [Array.getD_eq_getD_getElem?, Array.getElem?_eq_getElem (by omega)] at h0 h1
      simp only [Option.getD_some] at h0 h1
      refine Array.ext (by simpa using hs) fun i hi hi' => ?_
      match i, hi with
      | 0, _ => cases h : vs[0] <;> rw [h] at h0 <;> cases h0; rfl
      | 1, _ => cases h : vs[1] <;> rw [h] at h1 <;> cases h1; rfl
      | i + 2, hi => omega
    subst hvs
    unfold strconv_FormatUint.f fmtU at hq
    obtain ⟨hb, hq⟩ := cond_some hq
    simp only [Bool.and_eq_true, decide_eq_true_eq] at hb
    obtain ⟨⟨h2, h3⟩, h4⟩ := hb
    injection hq with hq
    subst hq
    obtain ⟨u, hu⟩ : ∃ u : Nat, a.1 = u := ⟨a.1.toNat, by omega⟩
    rw [hu, h4]
    refine (Tryz.fmtUint u (by omega) w (tab_of_glob hg (g := 3) (by kernel_rfl) rfl)).mono ?_
    rintro e w' ⟨rfl, k, os, rfl⟩
    refine ⟨_, rfl, grow_below w k os, ?_⟩
    rw [decF_is 19 _ (by omega)]
    exact RelD.s _
  exact fun ds a q => key ds a q
end Go.Proofs.YtopoklifappmcaaGreatDoor
end
section
namespace Go.Proofs
open Go.Shelf
def Tryz.laysPu14_ren : Go.Shelf.Ren := ⟨fun | 14 => 152 | 16 => 181 | 17 => 154 | 19 => 205 | 20 => 206 | 21 => 183 | 22 => 184 | 23 => 185 | 24 => 186 | 25 => 207 | 27 => 99 | 26 => 208 | 28 => 144 | 29 => 177 | 30 => 194 | 31 => 195 | 32 => 196 | 33 => 197 | 35 => 140 | 34 => 216 | 36 => 217 | 37 => 218 | 38 => 219 | 39 => 227 | 40 => 228 | n => n, fun | 9 => 9 | 3 => 3 | 22 => 128 | 24 => 157 | 25 => 179 | 4 => 4 | 34 => 208 | 5 => 5 | 36 => 138 | 37 => 178 | 0 => 0 | 39 => 211 | 21 => 21 | 44 => 234 | 47 => 229 | 50 => 247 | 48 => 245 | 2 => 2 | 52 => 221 | 55 => 223 | 59 => 239 | 60 => 173 | 20 => 20 | 61 => 240 | 65 => 253 | 66 => 254 | 67 => 204 | n => n, fun | 0 => 1 | 1 => 2 | 2 => 3 | 3 => 6 | 4 => 7 | n => n⟩
theorem Tryz.laysPu14 : Go.Proofs.LaysPu.n14 Tryz.prog Tryz.laysPu14_ren := {
  mixed := by kernel_rfl
  f14 := Tryz.func152.trans (congrArg some (by kernel_rfl))
  f16 := Tryz.func181.trans (congrArg some (by kernel_rfl))
  f17 := Tryz.func154.trans (congrArg some (by kernel_rfl))
  f19 := Tryz.func205.trans (congrArg some (by kernel_rfl))
  f20 := Tryz.func206.trans (congrArg some (by kernel_rfl))
  f21 := Tryz.func183.trans (congrArg some (by kernel_rfl))
  f22 := Tryz.func184.trans (congrArg some (by kernel_rfl))
  f23 := Tryz.func185.trans (congrArg some (by kernel_rfl))
  f24 := Tryz.func186.trans (congrArg some (by kernel_rfl))
  f25 := Tryz.func207.trans (congrArg some (by kernel_rfl))
  f26 := Tryz.func208.trans (congrArg some (by kernel_rfl))
  f27 := Tryz.func99.trans (congrArg some (by kernel_rfl))
  f28 := Tryz.func144.trans (congrArg some (by kernel_rfl))
  f29 := Tryz.func177.trans (congrArg some (by kernel_rfl))
  f30 := Tryz.func194.trans (congrArg some (by kernel_rfl))
  f31 := Tryz.func195.trans (congrArg some (by kernel_rfl))
  f32 := Tryz.func196.trans (congrArg some (by kernel_rfl))
  f33 := Tryz.func197.trans (congrArg some (by kernel_rfl))
  f34 := Tryz.func216.trans (congrArg some (by kernel_rfl))
  f35 := Tryz.func140.trans (congrArg some (by kernel_rfl))
  f36 := Tryz.func217.trans (congrArg some (by kernel_rfl))
  f37 := Tryz.func218.trans (congrArg some (by kernel_rfl))
  f38 := Tryz.func219.trans (congrArg some (by kernel_rfl))
  f39 := Tryz.func227.trans (congrArg some (by kernel_rfl))
  f40 := Tryz.func228.trans (congrArg some (by kernel_rfl))
  t0 := Tryz.underlying0
  a0 := Tryz.isAgg0
  z0 := Tryz.sizeOf0
  v0 := Tryz.zeroValue0
  i0 := by kernel_rfl
  t2 := Tryz.underlying2
  a2 := Tryz.isAgg2
  z2 := Tryz.sizeOf2
  v2 := Tryz.zeroValue2
  i2 := by kernel_rfl
  t3 := Tryz.underlying3
  a3 := Tryz.isAgg3
  z3 := Tryz.sizeOf3
  v3 := Tryz.zeroValue3
  i3 := by kernel_rfl
  t4 := Tryz.underlying4
  a4 := Tryz.isAgg4
  z4 := Tryz.sizeOf4
  v4 := Tryz.zeroValue4
  i4 := by kernel_rfl
  t5 := Tryz.underlying5
  a5 := Tryz.isAgg5
  z5 := Tryz.sizeOf5
  v5 := Tryz.zeroValue5
  i5 := by kernel_rfl
  t9 := Tryz.underlying9
  a9 := Tryz.isAgg9
  z9 := Tryz.sizeOf9
  v9 := Tryz.zeroValue9
  i9 := by kernel_rfl
  t20 := Tryz.underlying20
  a20 := Tryz.isAgg20
  z20 := Tryz.sizeOf20
  v20 := Tryz.zeroValue20
  i20 := by kernel_rfl
  t21 := Tryz.underlying21
  a21 := Tryz.isAgg21
  z21 := Tryz.sizeOf21
  v21 := Tryz.zeroValue21
  i21 := by kernel_rfl
  t22 := Tryz.underlying128
  a22 := Tryz.isAgg128
  z22 := Tryz.sizeOf128
  v22 := Tryz.zeroValue128
  i22 := by kernel_rfl
  t24 := Tryz.underlying157
  a24 := Tryz.isAgg157
  z24 := Tryz.sizeOf157
  v24 := Tryz.zeroValue157
  i24 := by kernel_rfl
  t25 := Tryz.underlying179
  a25 := Tryz.isAgg179
  z25 := Tryz.sizeOf179
  v25 := Tryz.zeroValue179
  i25 := by kernel_rfl
  t34 := Tryz.underlying208
  a34 := Tryz.isAgg208
  z34 := Tryz.sizeOf208
  v34 := Tryz.zeroValue208
  i34 := by kernel_rfl
  c34 := by kernel_rfl
  t36 := Tryz.underlying138
  a36 := Tryz.isAgg138
  z36 := Tryz.sizeOf138
  v36 := Tryz.zeroValue138
  i36 := by kernel_rfl
  t37 := Tryz.underlying178
  a37 := Tryz.isAgg178
  z37 := Tryz.sizeOf178
  v37 := Tryz.zeroValue178
  i37 := by kernel_rfl
  t39 := Tryz.underlying211
  a39 := Tryz.isAgg211
  z39 := Tryz.sizeOf211
  v39 := Tryz.zeroValue211
  i39 := by kernel_rfl
  t44 := Tryz.underlying234
  a44 := Tryz.isAgg234
  z44 := Tryz.sizeOf234
  v44 := Tryz.zeroValue234
  i44 := by kernel_rfl
  t47 := Tryz.underlying229
  a47 := Tryz.isAgg229
  z47 := Tryz.sizeOf229
  v47 := Tryz.zeroValue229
  i47 := by kernel_rfl
  t48 := Tryz.underlying245
  a48 := Tryz.isAgg245
  z48 := Tryz.sizeOf245
  v48 := Tryz.zeroValue245
  i48 := by kernel_rfl
  t50 := Tryz.underlying247
  a50 := Tryz.isAgg247
  z50 := Tryz.sizeOf247
  v50 := Tryz.zeroValue247
  i50 := by kernel_rfl
  t52 := Tryz.underlying221
  a52 := Tryz.isAgg221
  z52 := Tryz.sizeOf221
  v52 := Tryz.zeroValue221
  i52 := by kernel_rfl
  t55 := Tryz.underlying223
  a55 := Tryz.isAgg223
  z55 := Tryz.sizeOf223
  v55 := Tryz.zeroValue223
  i55 := by kernel_rfl
  t59 := Tryz.underlying239
  a59 := Tryz.isAgg239
  z59 := Tryz.sizeOf239
  v59 := Tryz.zeroValue239
  i59 := by kernel_rfl
  t60 := Tryz.underlying173
  a60 := Tryz.isAgg173
  z60 := Tryz.sizeOf173
  v60 := Tryz.zeroValue173
  i60 := by kernel_rfl
  t61 := Tryz.underlying240
  a61 := Tryz.isAgg240
  z61 := Tryz.sizeOf240
  t65 := Tryz.underlying253
  a65 := Tryz.isAgg253
  z65 := Tryz.sizeOf253
  v65 := Tryz.zeroValue253
  i65 := by kernel_rfl
  t66 := Tryz.underlying254
  a66 := Tryz.isAgg254
  z66 := Tryz.sizeOf254
  v66 := Tryz.zeroValue254
  i66 := by kernel_rfl
  t67 := Tryz.underlying204
  a67 := Tryz.isAgg204
  z67 := Tryz.sizeOf204
  v67 := Tryz.zeroValue204
  i67 := by kernel_rfl
  g0 := by kernel_rfl
  m0 := by kernel_rfl
  g1 := by kernel_rfl
  m1 := by kernel_rfl
  g2 := by kernel_rfl
  m2 := by kernel_rfl
  g3 := by kernel_rfl
  m3 := by kernel_rfl
  g4 := by kernel_rfl
  m4 := by kernel_rfl }
end Go.Proofs
end
section
set_option linter.unusedVariables false
namespace Go.Proofs.YtopoklifappmcaaGreatDoor
open Go Go.Fw Go.RowKit Go.Shelf
def parseU (l : List UInt8) : Int × Bool := match Lib.parseUintB 64 l with
  | .ok u => ((u : Int), false)
  | Lib.NumEnd.syntax => (0, true)
  | .range => (18446744073709551615, true)
abbrev strconv_ParseUint.As : Shs := .cons (.x .s) (.cons (.x (.i .i64)) (.cons (.x (.i .i64)) .nil))
abbrev strconv_ParseUint.m : Back := [(false, .i .u64), (false, .e)]
abbrev strconv_ParseUint.f (a : (ByteArray × (Int × Int))) : Option (Int × Bool) := bif decide (a.2.1 = 10) && decide (a.2.2 = 64) && decide (a.1.size ≤ 281474976710656) then some (parseU a.1.data.toList) else none
noncomputable abbrev strconv_ParseUint.row : Row := fnRow 152 strconv_ParseUint.As strconv_ParseUint.m strconv_ParseUint.f
theorem bytes_below (w : World) (t : TypeId) (s : ByteArray) : Below w.heap.size w (Lib.bytesWorld w t s) := by
  unfold Lib.bytesWorld World.freeze
  rw [if_neg (by decide)]
  refine ⟨rfl, rfl, rfl, by simp, fun k hk => ?_⟩
  show ((w.heap.push _).modify _ _)[k]? = _
  rw [Array.getElem?_modify, if_neg (by show ¬ w.heap.size = k; omega), Array.getElem?_push, if_neg (by omega)]
theorem strconv_ParseUint.row_ok : RowOK P G1 strconv_ParseUint.row := by
  have key : ∀ (ds : List D) (a : ByteArray × (Int × Int)) (q : Int × Bool), decArgs strconv_ParseUint.As ds = some a → strconv_ParseUint.f a = some q → Fw.Enters P 152 ∧ PCall P G1 152 ds (.tp [.i .u64 q.1, .er q.2]) := by
    intro ds a q ha hq
    refine ⟨ent_of Tryz.func152 (by kernel_rfl) (by kernel_rfl), ?_⟩
    have hds := (decArgs_argD ha).symm
    refine PCall.coe (ds' := argD strconv_ParseUint.As a) ?_ (by rw [← hds]; exact coeA_len) fun w I f hf => by rw [← hds]; exact coeA_rel hf
    refine pcall_below fun w I K vs hg hsz hr => ?_
    have h0 := hr 0 (.s a.1) rfl
    have h1 := hr 1 (.i .i64 a.2.1) rfl
    have h2 := hr 2 (.i .i64 a.2.2) rfl
    have hvs : vs = #[.string a.1, .int .i64 a.2.1, .int .i64 a.2.2] := by
      have hs : vs.size = 3 := hsz
      rw [Array.getD_eq_getD_getElem?, Array.getElem?_eq_getElem (by omega)] at h0 h1 h2
      simp only [Option.getD_some] at h0 h1 h2
      refine Array.ext (by simpa using hs) fun i hi hi' => ?_
      match i, hi with
      | 0, _ => cases h : vs[0] <;> rw [h] at h0 <;> cases h0; rfl
      | 1, _ => cases h : vs[1] <;> rw [h] at h1 <;> cases h1; rfl
      | 2, _ => cases h : vs[2] <;> rw [h] at h2 <;> cases h2; rfl
      | i + 3, hi => omega
    subst hvs
    unfold strconv_ParseUint.f at hq
    obtain ⟨hb, hq⟩ := cond_some hq
    simp only [Bool.and_eq_true, decide_eq_true_eq] at hb
    obtain ⟨⟨h3, h4⟩, h5⟩ := hb
    rw [h3, h4]
    injection hq with hq
    subst hq
    unfold parseU
    have tup : ∀ (w' : World) (n : Int) (b : Bool) (v : Value), RelD w' I (.er b) v → RelX w' I K (.tp [.i .u64 n, .er b]) (.tuple #[.int .u64 n, v]) := fun w' n b v hv => ⟨_, rfl, RelD.i .u64 n, ⟨hv, trivial, fun b h => by cases b <;> cases h⟩, fun b h => by cases h⟩
    cases hp : Lib.parseUintB 64 a.1.data.toList with
    | ok u =>
      refine (Any.strconv_ParseUint_10_at64_ok Tryz.laysPu14 a.1 (by omega) u hp w).mono ?_
      rintro e w' ⟨rfl, hw⟩
      refine ⟨_, rfl, ?_, tup w' u false _ .er0⟩
      rcases hw with rfl | rfl
      · exact .refl _ _
      · exact bytes_below _ _ _
    | range =>
      obtain ⟨tp, p, hv⟩ := err_of_glob (P := P) hg (g := 2) (name := "strconv.ErrRange") (by kernel_rfl) rfl
      refine (Any.strconv_ParseUint_10_at64_range_var Tryz.laysPu14 a.1 h5 hp tp p w hv).mono ?_
      rintro e w' ⟨N, rfl, _, _, hb⟩
      exact ⟨_, rfl, hb, tup w' 18446744073709551615 true _ (.er1 _ _)⟩
    | _ =>
      obtain ⟨tp, p, hv⟩ := err_of_glob (P := P) hg (g := 1) (name := "strconv.ErrSyntax") (by kernel_rfl) rfl
      refine (Any.strconv_ParseUint_10_at64_syntax_var Tryz.laysPu14 a.1 h5 hp tp p w hv).mono ?_
      rintro e w' ⟨N, rfl, _, _, hb⟩
      exact ⟨_, rfl, hb, tup w' 0 true _ (.er1 _ _)⟩
  exact fun ds a q => key ds a q
end Go.Proofs.YtopoklifappmcaaGreatDoor
end
section
set_option linter.unusedVariables false
set_option maxRecDepth 100000
namespace Go.Proofs.YtopoklifappmcaaGreatDoor
open Go Go.Fw
abbrev money_size.As : Shs := (.cons (.x (.i .i64)) .nil)
abbrev money_size.m : Back := [(false, (.i .u64))]
noncomputable abbrev money_size.H : HK := hk P G0 E0 J0 [] noLoops 4
theorem money_size.rows : TabOK P G0 (tabF []) := rows_ok (ws := []) trivial
theorem money_size.hok : HKOK P money_size.H := hk_ok e0_ok j0_ok money_size.rows (fun g n => noLoops_ok g n) 4
noncomputable def money_size.f (a : Int) : Option Int := (bif (decide ((a < (0 : Int)))) then (some (IntKind.wrap .u64 ((0 : Int) - (IntKind.wrap .u64 a)))) else (some (IntKind.wrap .u64 a)))
theorem money_size.ok : ∀ a : Vals money_size.As.tys, fnK P money_size.H (lp []) 147 money_size.As money_size.m a some = money_size.f a := fun a => by kernel_rfl
noncomputable abbrev money_size.row : Row := fnRow 147 money_size.As money_size.m money_size.f
theorem money_size.row_ok : RowOK P G0 money_size.row := row_told money_size.hok (lp_of (l := []) trivial) (fun _ => rfl) money_size.ok
abbrev money_Text.As : Shs := (.cons (.x (.i .i64)) .nil)
abbrev money_Text.m : Back := [(false, .s)]
noncomputable abbrev money_Text.H : HK := hk P G0 E0 J0 [strconv_FormatUint.row, money_size.row] noLoops 4
theorem money_Text.rows : TabOK P G0 (tabF [strconv_FormatUint.row, money_size.row]) := rows_ok (ws := [strconv_FormatUint.row, money_size.row]) ⟨strconv_FormatUint.row_ok, ⟨money_size.row_ok, trivial⟩⟩
theorem money_Text.hok : HKOK P money_Text.H := hk_ok e0_ok j0_ok money_Text.rows (fun g n => noLoops_ok g n) 4
noncomputable def money_Text.f (a : Int) : Option ByteArray := (bif (decide ((a < (0 : Int)))) then (((money_size.f a)).bind fun x1 => (((strconv_FormatUint.f ((IntKind.wrap .u64 ((Int.tmod x1 (100 : Int)) + (100 : Int))), (10 : Int)))).bind fun x2 => (((strconv_FormatUint.f ((IntKind.wrap .u64 (Int.tdiv x1 (100 : Int))), (10 : Int)))).bind fun x3 => (bif (Nat.ble (1 + x3.size) 9223372036854775807) then (bif (Nat.ble (((bs [45]) ++ x3).size + 1) 9223372036854775807) then (bif (true && (decide (((1 : Int) ≤ (x2.size : Int))))) then (bif (Nat.ble ((((bs [45]) ++ x3) ++ (bs [46])).size + (ByteArray.extract x2 1 x2.size).size) 9223372036854775807) then (some ((((bs [45]) ++ x3) ++ (bs [46])) ++ (ByteArray.extract x2 1 x2.size))) else none) else none) else none) else none)))) else (((money_size.f a)).bind fun x1 => (((strconv_FormatUint.f ((IntKind.wrap .u64 ((Int.tmod x1 (100 : Int)) + (100 : Int))), (10 : Int)))).bind fun x2 => (((strconv_FormatUint.f ((IntKind.wrap .u64 (Int.tdiv x1 (100 : Int))), (10 : Int)))).bind fun x3 => (bif (Nat.ble (0 + x3.size) 9223372036854775807) then (bif (Nat.ble (((bs []) ++ x3).size + 1) 9223372036854775807) then (bif (true && (decide (((1 : Int) ≤ (x2.size : Int))))) then (bif (Nat.ble ((((bs []) ++ x3) ++ (bs [46])).size + (ByteArray.extract x2 1 x2.size).size) 9223372036854775807) then (some ((((bs []) ++ x3) ++ (bs [46])) ++ (ByteArray.extract x2 1 x2.size))) else none) else none) else none) else none)))))
theorem money_Text.ok : ∀ a : Vals money_Text.As.tys, fnK P money_Text.H (lp []) 101 money_Text.As money_Text.m a some = money_Text.f a := fun a => by kernel_rfl
noncomputable abbrev money_Text.row : Row := fnRow 101 money_Text.As money_Text.m money_Text.f
theorem money_Text.row_ok : RowOK P G0 money_Text.row := row_told money_Text.hok (lp_of (l := []) trivial) (fun _ => rfl) money_Text.ok
noncomputable def money_signed.f (a : (Int × Bool)) : Option (Int × Int) := (bif a.2 then (bif (decide ((a.1 ≤ (9223372036854775808 : Int)))) then (some ((IntKind.wrap .i64 (IntKind.wrap .u64 ((0 : Int) - a.1))), (0 : Int))) else (bif (!a.2) then (bif (decide ((a.1 ≤ (9223372036854775807 : Int)))) then (some ((IntKind.wrap .i64 a.1), (0 : Int))) else (some ((0 : Int), (2 : Int)))) else (some ((0 : Int), (2 : Int))))) else (bif (!a.2) then (bif (decide ((a.1 ≤ (9223372036854775807 : Int)))) then (some ((IntKind.wrap .i64 a.1), (0 : Int))) else (some ((0 : Int), (2 : Int)))) else (some ((0 : Int), (2 : Int)))))
noncomputable def money_Parse.f (a : ByteArray) : Option (Int × Int) := (bif (decide (((a.size : Int) ≥ (1 : Int)))) then (bif (true && (decide (((1 : Int) ≤ (a.size : Int))))) then (bif (!((ByteArray.toList (ByteArray.extract a 0 1)) == [(45 : UInt8)])) then (bif ([(46 : UInt8)] == (ByteArray.toList a)) then (bif (true && (decide (((1 : Int) ≤ (a.size : Int))))) then (bif (Nat.ble ((ByteArray.extract a 0 0).size + (ByteArray.extract a 1 a.size).size) 9223372036854775807) then (((strconv_ParseUint.f (((ByteArray.extract a 0 0) ++ (ByteArray.extract a 1 a.size)), ((10 : Int), (64 : Int))))).bind fun x1 => (bif (!(!x1.2)) then (some ((0 : Int), (4 : Int))) else (((money_signed.f (x1.1, false))).bind fun x2 => (bif (x2.2 != (0 : Int)) then (some ((0 : Int), (4 : Int))) else (((money_Text.f x2.1)).bind fun x3 => (bif (!((ByteArray.toList x3) == (ByteArray.toList a))) then (some ((0 : Int), (4 : Int))) else (some (x2.1, (0 : Int))))))))) else none) else none) else (bif (decide (((Go.Lib.indexByte (Array.toList (ByteArray.data a)) (46 : UInt8)) ≥ (0 : Int)))) then (bif ((decide (((0 : Int) ≤ (Go.Lib.indexByte (Array.toList (ByteArray.data a)) (46 : UInt8))))) && (decide (((Go.Lib.indexByte (Array.toList (ByteArray.data a)) (46 : UInt8)) ≤ (a.size : Int))))) then (bif ((decide (((0 : Int) ≤ (IntKind.wrap .i64 ((Go.Lib.indexByte (Array.toList (ByteArray.data a)) (46 : UInt8)) + (1 : Int)))))) && (decide (((IntKind.wrap .i64 ((Go.Lib.indexByte (Array.toList (ByteArray.data a)) (46 : UInt8)) + (1 : Int))) ≤ (a.size : Int))))) then (bif (Nat.ble ((ByteArray.extract a 0 (Int.toNat (Go.Lib.indexByte (Array.toList (ByteArray.data a)) (46 : UInt8)))).size + (ByteArray.extract a (Int.toNat (IntKind.wrap .i64 ((Go.Lib.indexByte (Array.toList (ByteArray.data a)) (46 : UInt8)) + (1 : Int)))) a.size).size) 9223372036854775807) then (((strconv_ParseUint.f (((ByteArray.extract a 0 (Int.toNat (Go.Lib.indexByte (Array.toList (ByteArray.data a)) (46 : UInt8)))) ++ (ByteArray.extract a (Int.toNat (IntKind.wrap .i64 ((Go.Lib.indexByte (Array.toList (ByteArray.data a)) (46 : UInt8)) + (1 : Int)))) a.size)), ((10 : Int), (64 : Int))))).bind fun x1 => (bif (!(!x1.2)) then (some ((0 : Int), (4 : Int))) else (((money_signed.f (x1.1, false))).bind fun x2 => (bif (x2.2 != (0 : Int)) then (some ((0 : Int), (4 : Int))) else (((money_Text.f x2.1)).bind fun x3 => (bif (!((ByteArray.toList x3) == (ByteArray.toList a))) then (some ((0 : Int), (4 : Int))) else (some (x2.1, (0 : Int))))))))) else none) else none) else none) else (bif (Nat.ble (a.size + 0) 9223372036854775807) then (((strconv_ParseUint.f ((a ++ (bs [])), ((10 : Int), (64 : Int))))).bind fun x1 => (bif (!(!x1.2)) then (some ((0 : Int), (4 : Int))) else (((money_signed.f (x1.1, false))).bind fun x2 => (bif (x2.2 != (0 : Int)) then (some ((0 : Int), (4 : Int))) else (((money_Text.f x2.1)).bind fun x3 => (bif (!((ByteArray.toList x3) == (ByteArray.toList a))) then (some ((0 : Int), (4 : Int))) else (some (x2.1, (0 : Int))))))))) else none))) else (bif (true && (decide (((1 : Int) ≤ (a.size : Int))))) then (bif ([(46 : UInt8)] == (ByteArray.toList (ByteArray.extract a 1 a.size))) then (bif (true && (decide (((1 : Int) ≤ ((ByteArray.extract a 1 a.size).size : Int))))) then (bif (Nat.ble ((ByteArray.extract (ByteArray.extract a 1 a.size) 0 0).size + (ByteArray.extract (ByteArray.extract a 1 a.size) 1 (ByteArray.extract a 1 a.size).size).size) 9223372036854775807) then (((strconv_ParseUint.f (((ByteArray.extract (ByteArray.extract a 1 a.size) 0 0) ++ (ByteArray.extract (ByteArray.extract a 1 a.size) 1 (ByteArray.extract a 1 a.size).size)), ((10 : Int), (64 : Int))))).bind fun x1 => (bif (!(!x1.2)) then (some ((0 : Int), (4 : Int))) else (((money_signed.f (x1.1, true))).bind fun x2 => (bif (x2.2 != (0 : Int)) then (some ((0 : Int), (4 : Int))) else (((money_Text.f x2.1)).bind fun x3 => (bif (!((ByteArray.toList x3) == (ByteArray.toList a))) then (some ((0 : Int), (4 : Int))) else (some (x2.1, (0 : Int))))))))) else none) else none) else (bif (decide (((Go.Lib.indexByte (Array.toList (ByteArray.data (ByteArray.extract a 1 a.size))) (46 : UInt8)) ≥ (0 : Int)))) then (bif ((decide (((0 : Int) ≤ (Go.Lib.indexByte (Array.toList (ByteArray.data (ByteArray.extract a 1 a.size))) (46 : UInt8))))) && (decide (((Go.Lib.indexByte (Array.toList (ByteArray.data (ByteArray.extract a 1 a.size))) (46 : UInt8)) ≤ ((ByteArray.extract a 1 a.size).size : Int))))) then (bif ((decide (((0 : Int) ≤ (IntKind.wrap .i64 ((Go.Lib.indexByte (Array.toList (ByteArray.data (ByteArray.extract a 1 a.size))) (46 : UInt8)) + (1 : Int)))))) && (decide (((IntKind.wrap .i64 ((Go.Lib.indexByte (Array.toList (ByteArray.data (ByteArray.extract a 1 a.size))) (46 : UInt8)) + (1 : Int))) ≤ ((ByteArray.extract a 1 a.size).size : Int))))) then (bif (Nat.ble ((ByteArray.extract (ByteArray.extract a 1 a.size) 0 (Int.toNat (Go.Lib.indexByte (Array.toList (ByteArray.data (ByteArray.extract a 1 a.size))) (46 : UInt8)))).size + (ByteArray.extract (ByteArray.extract a 1 a.size) (Int.toNat (IntKind.wrap .i64 ((Go.Lib.indexByte (Array.toList (ByteArray.data (ByteArray.extract a 1 a.size))) (46 : UInt8)) + (1 : Int)))) (ByteArray.extract a 1 a.size).size).size) 9223372036854775807) then (((strconv_ParseUint.f (((ByteArray.extract (ByteArray.extract a 1 a.size) 0 (Int.toNat (Go.Lib.indexByte (Array.toList (ByteArray.data (ByteArray.extract a 1 a.size))) (46 : UInt8)))) ++ (ByteArray.extract (ByteArray.extract a 1 a.size) (Int.toNat (IntKind.wrap .i64 ((Go.Lib.indexByte (Array.toList (ByteArray.data (ByteArray.extract a 1 a.size))) (46 : UInt8)) + (1 : Int)))) (ByteArray.extract a 1 a.size).size)), ((10 : Int), (64 : Int))))).bind fun x1 => (bif (!(!x1.2)) then (some ((0 : Int), (4 : Int))) else (((money_signed.f (x1.1, true))).bind fun x2 => (bif (x2.2 != (0 : Int)) then (some ((0 : Int), (4 : Int))) else (((money_Text.f x2.1)).bind fun x3 => (bif (!((ByteArray.toList x3) == (ByteArray.toList a))) then (some ((0 : Int), (4 : Int))) else (some (x2.1, (0 : Int))))))))) else none) else none) else none) else (bif (Nat.ble ((ByteArray.extract a 1 a.size).size + 0) 9223372036854775807) then (((strconv_ParseUint.f (((ByteArray.extract a 1 a.size) ++ (bs [])), ((10 : Int), (64 : Int))))).bind fun x1 => (bif (!(!x1.2)) then (some ((0 : Int), (4 : Int))) else (((money_signed.f (x1.1, true))).bind fun x2 => (bif (x2.2 != (0 : Int)) then (some ((0 : Int), (4 : Int))) else (((money_Text.f x2.1)).bind fun x3 => (bif (!((ByteArray.toList x3) == (ByteArray.toList a))) then (some ((0 : Int), (4 : Int))) else (some (x2.1, (0 : Int))))))))) else none))) else none)) else none) else (bif ([(46 : UInt8)] == (ByteArray.toList a)) then (bif (true && (decide (((1 : Int) ≤ (a.size : Int))))) then (bif (Nat.ble ((ByteArray.extract a 0 0).size + (ByteArray.extract a 1 a.size).size) 9223372036854775807) then (((strconv_ParseUint.f (((ByteArray.extract a 0 0) ++ (ByteArray.extract a 1 a.size)), ((10 : Int), (64 : Int))))).bind fun x1 => (bif (!(!x1.2)) then (some ((0 : Int), (4 : Int))) else (((money_signed.f (x1.1, false))).bind fun x2 => (bif (x2.2 != (0 : Int)) then (some ((0 : Int), (4 : Int))) else (((money_Text.f x2.1)).bind fun x3 => (bif (!((ByteArray.toList x3) == (ByteArray.toList a))) then (some ((0 : Int), (4 : Int))) else (some (x2.1, (0 : Int))))))))) else none) else none) else (bif (decide (((Go.Lib.indexByte (Array.toList (ByteArray.data a)) (46 : UInt8)) ≥ (0 : Int)))) then (bif ((decide (((0 : Int) ≤ (Go.Lib.indexByte (Array.toList (ByteArray.data a)) (46 : UInt8))))) && (decide (((Go.Lib.indexByte (Array.toList (ByteArray.data a)) (46 : UInt8)) ≤ (a.size : Int))))) then (bif ((decide (((0 : Int) ≤ (IntKind.wrap .i64 ((Go.Lib.indexByte (Array.toList (ByteArray.data a)) (46 : UInt8)) + (1 : Int)))))) && (decide (((IntKind.wrap .i64 ((Go.Lib.indexByte (Array.toList (ByteArray.data a)) (46 : UInt8)) + (1 : Int))) ≤ (a.size : Int))))) then (bif (Nat.ble ((ByteArray.extract a 0 (Int.toNat (Go.Lib.indexByte (Array.toList (ByteArray.data a)) (46 : UInt8)))).size + (ByteArray.extract a (Int.toNat (IntKind.wrap .i64 ((Go.Lib.indexByte (Array.toList (ByteArray.data a)) (46 : UInt8)) + (1 : Int)))) a.size).size) 9223372036854775807) then (((strconv_ParseUint.f (((ByteArray.extract a 0 (Int.toNat (Go.Lib.indexByte (Array.toList (ByteArray.data a)) (46 : UInt8)))) ++ (ByteArray.extract a (Int.toNat (IntKind.wrap .i64 ((Go.Lib.indexByte (Array.toList (ByteArray.data a)) (46 : UInt8)) + (1 : Int)))) a.size)), ((10 : Int), (64 : Int))))).bind fun x1 => (bif (!(!x1.2)) then (some ((0 : Int), (4 : Int))) else (((money_signed.f (x1.1, false))).bind fun x2 => (bif (x2.2 != (0 : Int)) then (some ((0 : Int), (4 : Int))) else (((money_Text.f x2.1)).bind fun x3 => (bif (!((ByteArray.toList x3) == (ByteArray.toList a))) then (some ((0 : Int), (4 : Int))) else (some (x2.1, (0 : Int))))))))) else none) else none) else none) else (bif (Nat.ble (a.size + 0) 9223372036854775807) then (((strconv_ParseUint.f ((a ++ (bs [])), ((10 : Int), (64 : Int))))).bind fun x1 => (bif (!(!x1.2)) then (some ((0 : Int), (4 : Int))) else (((money_signed.f (x1.1, false))).bind fun x2 => (bif (x2.2 != (0 : Int)) then (some ((0 : Int), (4 : Int))) else (((money_Text.f x2.1)).bind fun x3 => (bif (!((ByteArray.toList x3) == (ByteArray.toList a))) then (some ((0 : Int), (4 : Int))) else (some (x2.1, (0 : Int))))))))) else none))))
end Go.Proofs.YtopoklifappmcaaGreatDoor
end
section
set_option linter.unusedVariables false
set_option linter.unusedSimpArgs false
namespace Go.Proofs.YtopoklifappmcaaGreatDoor
open Go Go.Fw
def body (n : Nat) : List UInt8 := decP 19 (n / 1000) ++ [dgt (n / 100 % 10), 46, dgt (n / 10 % 10), dgt (n % 10)]
def txt (a : Int) : List UInt8 := (if a < 0 then [45] else []) ++ body a.natAbs
theorem txt_len (a : Int) : (txt a).length ≤ 24 := by
  have := decP_len 19 (a.natAbs / 1000)
  unfold txt body
  split <;> simp <;> omega
theorem asize_is {a : Int} (ha : Am a) : money_size.f a = some (a.natAbs : Int) := by
  obtain ⟨h1, h2⟩ := ha
  unfold money_size.f
  simp only [wrap_u64]
  by_cases h : a < 0 <;> simp [h] <;> omega
theorem signed_is {u : Nat} {b : Bool} (h : u < 18446744073709551616) : ∃ r, money_signed.f ((u : Int), b) = some r ∧ (r = (0, 2) ∨ (Am (bif b then -(u : Int) else u) ∧ r = (bif b then -(u : Int) else u, 0))) ∧ (Am (bif b then -(u : Int) else u) → r = (bif b then -(u : Int) else u, 0)) := by
  unfold money_signed.f Am
  simp only [wrap_u64, IntKind.wrap_i64]
  cases b
  · by_cases h1 : (u : Int) ≤ 9223372036854775807
    · simp [h1]; omega
    · simp [h1]
  · by_cases h1 : (u : Int) ≤ 9223372036854775808
    · simp [h1]; omega
    · simp [h1]
theorem fmtU_is {n : Nat} (h : n < 18446744073709551616) : fmtU ((n : Int), 10) = some (bs (decF 20 n)) := by
  unfold fmtU
  have h1 : (decide ((0 : Int) ≤ (n : Int)) && decide ((n : Int) < 18446744073709551616) && decide ((10 : Int) = 10)) = true := by
    have h0 : (n : Int) < 18446744073709551616 := by omega
    simp [h0]
  rw [h1]
  simp [bs]
theorem cents_is (n : Nat) : strconv_FormatUint.f (((n % 100 + 100 : Nat) : Int), 10) = some (bs [dgt 1, dgt (n / 10 % 10), dgt (n % 10)]) := by
  show fmtU _ = _
  have h0 : decP 19 ((n % 100 + 100) / 10) = [dgt 1, dgt (n / 10 % 10)] := by
    unfold decP
    rw [if_neg (by omega)]
    unfold decP
    rw [if_neg (by omega)]
    unfold decP
    rw [if_pos (by omega)]
    rw [show (n % 100 + 100) / 10 / 10 % 10 = 1 by omega, show (n % 100 + 100) / 10 % 10 = n / 10 % 10 by omega]
    rfl
  rw [fmtU_is (by omega), decF_decP 19 _ (by omega), h0, show (n % 100 + 100) % 10 = n % 10 by omega]
  rfl
theorem whole_is {n : Nat} (hn : n ≤ 9223372036854775808) : strconv_FormatUint.f (((n / 100 : Nat) : Int), 10) = some (bs (decP 19 (n / 1000) ++ [dgt (n / 100 % 10)])) := by
  show fmtU _ = _
  rw [fmtU_is (by omega), decF_decP 19 _ (by omega), show n / 100 / 10 = n / 1000 by omega]
theorem Text_is {a : Int} (ha : Am a) : money_Text.f a = some (bs (txt a)) := by
  have hn : a.natAbs ≤ 9223372036854775808 := by obtain ⟨h1, h2⟩ := ha; omega
  unfold money_Text.f
  rw [asize_is ha]
  unfold txt
  obtain ⟨n, hN⟩ : ∃ n, a.natAbs = n := ⟨_, rfl⟩
  rw [hN] at hn ⊢
  have e1 : IntKind.wrap .u64 (Int.tmod (n : Int) 100 + 100) = ((n % 100 + 100 : Nat) : Int) := by
    rw [wrap_u64, show Int.tmod (n : Int) 100 = ((n % 100 : Nat) : Int) from (Int.ofNat_tmod n 100).symm]
    omega
  have e2 : IntKind.wrap .u64 (Int.tdiv (n : Int) 100) = ((n / 100 : Nat) : Int) := by
    rw [wrap_u64, show Int.tdiv (n : Int) 100 = ((n / 100 : Nat) : Int) from (Int.ofNat_tdiv n 100).symm]
    omega
  have f1 := cents_is n
  have f2 := whole_is hn
  have hl := decP_len 19 (n / 1000)
  unfold body
  obtain ⟨d, hd⟩ : ∃ d, decP 19 (n / 1000) = d := ⟨_, rfl⟩
  rw [hd] at hl f2 ⊢
  have b1 : ∀ k, k ≤ 100 → Nat.ble k 9223372036854775807 = true := fun k h => Nat.ble_eq_true_of_le (by omega)
  by_cases h : a < 0
  · rw [decide_eq_true h, if_pos h]
    rw [cond_true, Option.bind_some, e1, f1, Option.bind_some, e2, f2, Option.bind_some]
    simp only [bs_append, bs_size, bs_extract, Bool.true_and]
    rw [b1 _ (by simp; omega), b1 _ (by simp; omega), b1 _ (by simp; omega)]
    simp
  · rw [decide_eq_false h, if_neg h]
    rw [cond_false, Option.bind_some, e1, f1, Option.bind_some, e2, f2, Option.bind_some]
    simp only [bs_append, bs_size, bs_extract, Bool.true_and]
    rw [b1 _ (by simp; omega), b1 _ (by simp; omega), b1 _ (by simp; omega)]
    simp
end Go.Proofs.YtopoklifappmcaaGreatDoor
end
section
set_option linter.unusedVariables false
set_option linter.unusedSimpArgs false
namespace Go.Proofs.YtopoklifappmcaaGreatDoor
open Go Go.Fw
def cut (l : List UInt8) : List UInt8 := if 0 ≤ Lib.indexByte l 46 then l.take (Lib.indexByte l 46).toNat ++ l.drop ((Lib.indexByte l 46).toNat + 1) else l
def sgn (b : Bool) (u : Nat) : Int := bif b then -(u : Int) else u
def Reads (b : Bool) (l r : List UInt8) (q : Int × Int) : Prop :=
  (q = (0, 4) ∨ ∃ v, Am v ∧ txt v = l ∧ q = (v, 0)) ∧ ∀ u, Lib.parseUintB 64 (cut r) = .ok u → Am (sgn b u) → txt (sgn b u) = l → q = (sgn b u, 0)
theorem tail_reads (b : Bool) (l r w : List UInt8) (hw : w = cut r) (hl : w.length ≤ 1000) : ∃ q, (strconv_ParseUint.f (bs w, ((10 : Int), (64 : Int)))).bind (fun (x1 : (Int × Bool)) => (bif (!(!x1.2)) then (some ((0 : Int), (4 : Int))) else (((money_signed.f (x1.1, b))).bind fun (x2 : (Int × Int)) => (bif (x2.2 != (0 : Int)) then (some ((0 : Int), (4 : Int))) else (((money_Text.f x2.1)).bind fun (x3 : ByteArray) => (bif (!(decide (x3 = bs l))) then (some ((0 : Int), (4 : Int))) else (some (x2.1, (0 : Int))))))))) = some q ∧ Reads b l r q := by
  subst hw
  have hp : strconv_ParseUint.f (bs (cut r), (10, 64)) = some (parseU (cut r)) := by
    unfold strconv_ParseUint.f
    simp only [bs_list, bs_size]
    have h0 : (cut r).length ≤ 281474976710656 := by omega
    simp only [h0, decide_true, Bool.true_and, cond_true]
  rw [hp, Option.bind_some]
  unfold parseU Reads
  cases h : Lib.parseUintB 64 (cut r) with
  | range => exact ⟨(0, 4), rfl, .inl rfl, fun u h => by cases h⟩
  | ok u =>
    have hu := Lib.parseUintB_le h
    obtain ⟨q, h1, h2, h3⟩ := signed_is (u := u) (b := b) (by omega)
    simp only [Bool.not_false, Bool.not_true, cond_false]
    rw [h1, Option.bind_some]
    have hs : (bif b then -(u : Int) else (u : Int)) = sgn b u := rfl
    rw [hs] at h2 h3
    rcases h2 with h2 | ⟨ha, h2⟩
    · subst h2
      refine ⟨(0, 4), rfl, .inl rfl, fun u' e hA _ => ?_⟩
      injection e with e
      subst e
      have := h3 hA
      injection this with _ h
      cases h
    · subst h2
      have hz : ((0 : Int) != 0) = false := by decide
      simp only [hz, cond_false]
      rw [Text_is ha, Option.bind_some]
      by_cases ht : txt (sgn b u) = l
      · subst ht
        simp only [decide_true, Bool.not_true, cond_false]
        exact ⟨_, rfl, .inr ⟨_, ha, rfl, rfl⟩, fun u' e _ _ => by injection e with e; subst e; rfl⟩
      · have hn : decide (bs (txt (sgn b u)) = bs l) = false := by rw [decide_eq_false_iff_not, bs_inj]; exact ht
        rw [hn]
        refine ⟨(0, 4), rfl, .inl rfl, fun u' e _ h => ?_⟩
        injection e with e
        subst e
        exact absurd h ht
  | _ => exact ⟨(0, 4), rfl, .inl rfl, fun u h => by cases h⟩
theorem lists_eq (l r : List UInt8) : (l == r) = decide (l = r) := by rw [Bool.eq_iff_iff, beq_iff_eq, decide_eq_true_eq]
theorem Parse_is {l : List UInt8} (hl : l.length ≤ 1000) : ∃ q, money_Parse.f (bs l) = some q ∧ (if l.head? = some 45 then Reads true l (l.drop 1) q else Reads false l l q) := by
  have fin := fun b r w hw hl => tail_reads b l r w hw hl
  have b1 : ∀ k, k ≤ 3000 → Nat.ble k 9223372036854775807 = true := fun k h => Nat.ble_eq_true_of_le (by omega)
  unfold money_Parse.f
  simp only [bs_size, bs_extract, bs_append, bs_list, bs_toList]
  simp only [texts_list]
  simp only [lists_eq]
  have dot : ∀ (r : List UInt8) (b : Bool), r.length ≤ 1000 → ∃ q, (bif decide ([46] = r) then
      (bif (true && (decide (((1 : Int) ≤ (r.length : Int))))) then (bif (Nat.ble (((r.take 0).drop 0).length + ((r.take r.length).drop 1).length) 9223372036854775807) then
        ((strconv_ParseUint.f (bs (((r.take 0).drop 0) ++ ((r.take r.length).drop 1)), ((10 : Int), (64 : Int)))).bind (fun (x1 : (Int × Bool)) => (bif (!(!x1.2)) then (some ((0 : Int), (4 : Int))) else (((money_signed.f (x1.1, b))).bind fun (x2 : (Int × Int)) => (bif (x2.2 != (0 : Int)) then (some ((0 : Int), (4 : Int))) else (((money_Text.f x2.1)).bind fun (x3 : ByteArray) => (bif (!(decide (x3 = bs l))) then (some ((0 : Int), (4 : Int))) else (some (x2.1, (0 : Int)))))))))) else none) else none)
      else (bif (decide (Lib.indexByte r 46 ≥ (0 : Int))) then (bif ((decide ((0 : Int) ≤ Lib.indexByte r 46)) && (decide (Lib.indexByte r 46 ≤ (r.length : Int)))) then
        (bif ((decide (((0 : Int) ≤ (IntKind.wrap .i64 (Lib.indexByte r 46 + (1 : Int)))))) && (decide (((IntKind.wrap .i64 (Lib.indexByte r 46 + (1 : Int))) ≤ (r.length : Int))))) then
          (bif (Nat.ble (((r.take (Int.toNat (Lib.indexByte r 46))).drop 0).length + ((r.take r.length).drop (Int.toNat (IntKind.wrap .i64 (Lib.indexByte r 46 + (1 : Int))))).length) 9223372036854775807) then
            ((strconv_ParseUint.f (bs (((r.take (Int.toNat (Lib.indexByte r 46))).drop 0) ++ ((r.take r.length).drop (Int.toNat (IntKind.wrap .i64 (Lib.indexByte r 46 + (1 : Int)))))), ((10 : Int), (64 : Int)))).bind (fun (x1 : (Int × Bool)) => (bif (!(!x1.2)) then (some ((0 : Int), (4 : Int))) else (((money_signed.f (x1.1, b))).bind fun (x2 : (Int × Int)) => (bif (x2.2 != (0 : Int)) then (some ((0 : Int), (4 : Int))) else (((money_Text.f x2.1)).bind fun (x3 : ByteArray) => (bif (!(decide (x3 = bs l))) then (some ((0 : Int), (4 : Int))) else (some (x2.1, (0 : Int)))))))))) else none) else none) else none)
        else (bif (Nat.ble (r.length + 0) 9223372036854775807) then ((strconv_ParseUint.f (bs (r ++ []), ((10 : Int), (64 : Int)))).bind (fun (x1 : (Int × Bool)) => (bif (!(!x1.2)) then (some ((0 : Int), (4 : Int))) else (((money_signed.f (x1.1, b))).bind fun (x2 : (Int × Int)) => (bif (x2.2 != (0 : Int)) then (some ((0 : Int), (4 : Int))) else (((money_Text.f x2.1)).bind fun (x3 : ByteArray) => (bif (!(decide (x3 = bs l))) then (some ((0 : Int), (4 : Int))) else (some (x2.1, (0 : Int)))))))))) else none))) = some q ∧ Reads b l r q := by
    intro r b hr
    by_cases hd : [46] = r
    · subst hd
      exact fin b [46] [] (by decide) (by simp)
    · rw [decide_eq_false hd, cond_false]
      have hi := indexByte_lt 46 r
      have hu : ∀ x : Int, 0 ≤ x → x < r.length → IntKind.wrap .i64 (x + 1) = x + 1 := fun x h1 h2 => wrap_i64 (by omega) (by omega)
      by_cases h0 : 0 ≤ Lib.indexByte r 46
      · have hc : cut r = r.take (Lib.indexByte r 46).toNat ++ r.drop ((Lib.indexByte r 46).toNat + 1) := by unfold cut; rw [if_pos h0]
        obtain ⟨x, hx⟩ : ∃ x, Lib.indexByte r 46 = x := ⟨_, rfl⟩
        rw [hx] at h0 hi hc ⊢
        have p2 : x ≤ (r.length : Int) := by omega
        have p3 : 0 ≤ x + 1 := by omega
        have p4 : x + 1 ≤ (r.length : Int) := by omega
        rw [hu x h0 hi]
        simp only [ge_iff_le, h0, p2, p3, p4, decide_true, Bool.and_self, cond_true]
        rw [b1 _ (by simp; omega), cond_true]
        refine fin b r _ ?_ ?_
        · rw [hc, List.drop_zero, List.take_length, show (x + 1).toNat = x.toNat + 1 by omega]
        · simp; omega
      · rw [decide_eq_false (show ¬ Lib.indexByte r 46 ≥ 0 from h0), cond_false, b1 _ (by omega), cond_true]
        refine fin b r _ ?_ ?_
        · unfold cut; rw [if_neg h0, List.append_nil]
        · simp; omega
  cases l with
  | nil => exact dot [] false (by simp)
  | cons c r =>
    have h1 : ((c :: r).length : Int) ≥ 1 := by rw [List.length_cons]; omega
    have h2 : (1 : Int) ≤ ((c :: r).length : Int) := h1
    simp only [h1, h2, decide_true, cond_true, Bool.true_and]
    by_cases hc : c = 45
    · subst hc
      simp only [List.head?_cons, if_true]
      have h3 : decide (List.drop 0 (List.take 1 (45 :: r)) = [45]) = true := by simp
      simp only [h3, Bool.not_true, cond_false]
      have := dot r true (by simp at hl; omega)
      simpa using this
    · have hq : ¬ some c = some (45 : UInt8) := by simpa using hc
      simp only [List.head?_cons, Option.some.injEq, hc, if_false]
      have h3 : decide (List.drop 0 (List.take 1 (c :: r)) = [45]) = false := by simp [hc]
      simp only [h3, Bool.not_false, cond_true]
      have := dot (c :: r) false hl
      simp only [h1, h2, decide_true, cond_true, Bool.true_and] at this
      exact this
end Go.Proofs.YtopoklifappmcaaGreatDoor
end
section
set_option linter.unusedVariables false
set_option linter.unusedSimpArgs false
namespace Go.Proofs.YtopoklifappmcaaGreatDoor
open Go Go.Fw
theorem body_dig (n : Nat) : ∀ c, c ∈ decP 19 (n / 1000) ++ [dgt (n / 100 % 10)] → 48 ≤ c.toNat ∧ c.toNat ≤ 57 := by
  intro c h
  rcases List.mem_append.1 h with h | h
  · exact decP_dig _ _ _ h
  · rw [List.mem_singleton.1 h, dgt_nat (by omega)]; omega
theorem body_head (n : Nat) : ¬ (body n).head? = some 45 := by
  intro h
  have hd := body_dig n
  have e : body n = (decP 19 (n / 1000) ++ [dgt (n / 100 % 10)]) ++ 46 :: [dgt (n / 10 % 10), dgt (n % 10)] := by unfold body; simp
  cases hl : decP 19 (n / 1000) ++ [dgt (n / 100 % 10)] with
  | nil => simp at hl
  | cons c r =>
    rw [e, hl] at h
    have := hd c (by rw [hl]; exact List.mem_cons_self ..)
    simp at h
    rw [h] at this
    exact absurd this (by decide)
end Go.Proofs.YtopoklifappmcaaGreatDoor
end
section
set_option linter.unusedVariables false
set_option linter.unusedSimpArgs false
namespace Go.Proofs.YtopoklifappmcaaGreatDoor
open Go Go.Fw
theorem body_cut (n : Nat) : cut (body n) = decP 19 (n / 1000) ++ [dgt (n / 100 % 10), dgt (n / 10 % 10), dgt (n % 10)] := by
  have hd := body_dig n
  have e : body n = (decP 19 (n / 1000) ++ [dgt (n / 100 % 10)]) ++ 46 :: [dgt (n / 10 % 10), dgt (n % 10)] := by unfold body; simp
  obtain ⟨l, hl⟩ : ∃ l, decP 19 (n / 1000) ++ [dgt (n / 100 % 10)] = l := ⟨_, rfl⟩
  rw [hl] at hd e
  have hi := indexByte_skip 46 l [dgt (n / 10 % 10), dgt (n % 10)] fun x hx h => by
    have := hd x hx
    rw [h] at this
    exact absurd this (by decide)
  unfold cut
  rw [e, hi, if_pos (by omega), Int.toNat_natCast, List.take_left' rfl, ← List.drop_drop, List.drop_left' rfl, ← hl]
  simp
theorem body_parse {n : Nat} (hn : n ≤ 9223372036854775808) : Lib.parseUintB 64 (cut (body n)) = .ok n := by
  rw [body_cut]
  unfold Lib.parseUintB
  rw [if_neg (by simp), parse_decP _ 19 (n / 1000) _ (by omega) (by omega) (by omega), parse_dig (by omega) (by omega) (by omega), parse_dig (by omega) (by omega) (by omega), parse_dig (by omega) (by omega) (by omega)]
  show Lib.NumEnd.ok _ = _
  congr 1
  omega
theorem Parse_law {l : List UInt8} (hl : l.length ≤ 1000) : ∃ q, money_Parse.f (bs l) = some q ∧ (q = (0, 4) ∨ ∃ v, Am v ∧ txt v = l ∧ q = (v, 0)) ∧ ∀ v, Am v → txt v = l → q = (v, 0) := by
  obtain ⟨q, h1, h2⟩ := Parse_is hl
  refine ⟨q, h1, ?_, ?_⟩
  · split at h2 <;> exact h2.1
  · intro v hv ht
    subst ht
    obtain ⟨v1, v2⟩ := hv
    by_cases h : v < 0
    · have e : txt v = 45 :: body v.natAbs := by unfold txt; rw [if_pos h]; rfl
      rw [if_pos (by rw [e]; rfl)] at h2
      have e2 : sgn true v.natAbs = v := by show -(v.natAbs : Int) = v; omega
      have := h2.2 v.natAbs (by rw [e, List.drop_one, List.tail_cons, body_parse (by omega)])
      rw [e2] at this
      exact this ⟨v1, v2⟩ rfl
    · have e : txt v = body v.natAbs := by unfold txt; rw [if_neg h]; rfl
      rw [if_neg (by rw [e]; exact body_head _)] at h2
      have e2 : sgn false v.natAbs = v := by show (v.natAbs : Int) = v; omega
      have := h2.2 v.natAbs (by rw [e, body_parse (by omega)])
      rw [e2] at this
      exact this ⟨v1, v2⟩ rfl
end Go.Proofs.YtopoklifappmcaaGreatDoor
end
section
namespace Go.Proofs
open Go.Shelf
def Tryz.lays105_ren : Go.Shelf.Ren := ⟨fun | 105 => 143 | 212 => 171 | 99 => 172 | 165 => 173 | 166 => 174 | 170 => 175 | 169 => 176 | 263 => 198 | 264 => 199 | 206 => 200 | 240 => 201 | 241 => 202 | 276 => 220 | 277 => 221 | n => n, fun | 9 => 9 | 3 => 3 | 4 => 4 | 20 => 20 | 0 => 0 | 46 => 138 | 109 => 197 | 5 => 5 | 72 => 201 | 76 => 158 | 51 => 173 | 146 => 225 | 53 => 128 | 148 => 227 | 70 => 199 | 37 => 178 | 75 => 157 | 127 => 229 | 164 => 241 | 80 => 204 | n => n, fun | n => n⟩
theorem Tryz.lays105 : Go.Proofs.Lays.n105 Tryz.prog Tryz.lays105_ren := {
  mixed := by kernel_rfl
  f99 := Tryz.func172.trans (congrArg some (by kernel_rfl))
  f105 := Tryz.func143.trans (congrArg some (by kernel_rfl))
  f165 := Tryz.func173.trans (congrArg some (by kernel_rfl))
  f166 := Tryz.func174.trans (congrArg some (by kernel_rfl))
  f169 := Tryz.func176.trans (congrArg some (by kernel_rfl))
  f170 := Tryz.func175.trans (congrArg some (by kernel_rfl))
  f206 := Tryz.func200.trans (congrArg some (by kernel_rfl))
  f212 := Tryz.func171.trans (congrArg some (by kernel_rfl))
  f240 := Tryz.func201.trans (congrArg some (by kernel_rfl))
  f241 := Tryz.func202.trans (congrArg some (by kernel_rfl))
  f263 := Tryz.func198.trans (congrArg some (by kernel_rfl))
  f264 := Tryz.func199.trans (congrArg some (by kernel_rfl))
  f276 := Tryz.func220.trans (congrArg some (by kernel_rfl))
  f277 := Tryz.func221.trans (congrArg some (by kernel_rfl))
  t0 := Tryz.underlying0
  a0 := Tryz.isAgg0
  z0 := Tryz.sizeOf0
  v0 := Tryz.zeroValue0
  t3 := Tryz.underlying3
  a3 := Tryz.isAgg3
  z3 := Tryz.sizeOf3
  v3 := Tryz.zeroValue3
  t4 := Tryz.underlying4
  a4 := Tryz.isAgg4
  z4 := Tryz.sizeOf4
  v4 := Tryz.zeroValue4
  t5 := Tryz.underlying5
  a5 := Tryz.isAgg5
  z5 := Tryz.sizeOf5
  v5 := Tryz.zeroValue5
  t9 := Tryz.underlying9
  a9 := Tryz.isAgg9
  z9 := Tryz.sizeOf9
  v9 := Tryz.zeroValue9
  t20 := Tryz.underlying20
  a20 := Tryz.isAgg20
  z20 := Tryz.sizeOf20
  v20 := Tryz.zeroValue20
  t37 := Tryz.underlying178
  a37 := Tryz.isAgg178
  z37 := Tryz.sizeOf178
  v37 := Tryz.zeroValue178
  t46 := Tryz.underlying138
  a46 := Tryz.isAgg138
  z46 := Tryz.sizeOf138
  v46 := Tryz.zeroValue138
  t51 := Tryz.underlying173
  a51 := Tryz.isAgg173
  z51 := Tryz.sizeOf173
  v51 := Tryz.zeroValue173
  t53 := Tryz.underlying128
  a53 := Tryz.isAgg128
  z53 := Tryz.sizeOf128
  v53 := Tryz.zeroValue128
  t70 := Tryz.underlying199
  a70 := Tryz.isAgg199
  z70 := Tryz.sizeOf199
  v70 := Tryz.zeroValue199
  t72 := Tryz.underlying201
  a72 := Tryz.isAgg201
  z72 := Tryz.sizeOf201
  v72 := Tryz.zeroValue201
  t75 := Tryz.underlying157
  a75 := Tryz.isAgg157
  z75 := Tryz.sizeOf157
  v75 := Tryz.zeroValue157
  t76 := Tryz.underlying158
  a76 := Tryz.isAgg158
  z76 := Tryz.sizeOf158
  v76 := Tryz.zeroValue158
  t109 := Tryz.underlying197
  a109 := Tryz.isAgg197
  z109 := Tryz.sizeOf197
  v109 := Tryz.zeroValue197
  t127 := Tryz.underlying229
  a127 := Tryz.isAgg229
  z127 := Tryz.sizeOf229
  v127 := Tryz.zeroValue229
  t146 := Tryz.underlying225
  a146 := Tryz.isAgg225
  z146 := Tryz.sizeOf225
  v146 := Tryz.zeroValue225
  t148 := Tryz.underlying227
  a148 := Tryz.isAgg227
  z148 := Tryz.sizeOf227
  v148 := Tryz.zeroValue227
  t164 := Tryz.underlying241
  a164 := Tryz.isAgg241
  z164 := Tryz.sizeOf241
  v164 := Tryz.zeroValue241 }
end Go.Proofs
end
section
set_option linter.unusedVariables false
namespace Go.Proofs.YtopoklifappmcaaGreatDoor
open Go Go.Fw Go.RowKit Go.Shelf
theorem repExtra : Builder.Extra P Tryz.lays105_ren where
  sizeBuilder := by kernel_rfl
  liesBuilder := by kernel_rfl
  t5 := Tryz.lays105.t5
  a5 := Tryz.lays105.a5
  z5 := Tryz.lays105.z5
  v5 := Tryz.lays105.v5
  infoByte := by kernel_rfl
  cellsByte := by kernel_rfl
  sizeByte := by kernel_rfl
  neB5 := by decide
def repeatT (s : ByteArray) (n : Int) : Option ByteArray := bif decide (0 ≤ n) && (decide (n ≤ 140737488355328) && decide (s.size * n.toNat ≤ 140737488355328)) then some ⟨(Lib.repeatL s.data.toList n.toNat).toArray⟩ else none
abbrev strings_Repeat.As : Shs := .cons (.x .s) (.cons (.x (.i .i64)) .nil)
abbrev strings_Repeat.m : Back := [(false, .s)]
abbrev strings_Repeat.f (a : (ByteArray × Int)) : Option ByteArray := repeatT a.1 a.2
noncomputable abbrev strings_Repeat.row : Row := fnRow 143 strings_Repeat.As strings_Repeat.m strings_Repeat.f
theorem strings_Repeat.row_ok : RowOK P G0 strings_Repeat.row := by
  have key : ∀ (ds : List D) (a : ByteArray × Int) (q : ByteArray), decArgs strings_Repeat.As ds = some a → strings_Repeat.f a = some q → Fw.Enters P 143 ∧ PCall P G0 143 ds (.s q) := by
    intro ds a q ha hq
    refine ⟨ent_of Tryz.func143 (by kernel_rfl) (by kernel_rfl), ?_⟩
    have hds := (decArgs_argD ha).symm
    refine PCall.coe (ds' := argD strings_Repeat.As a) ?_ (by rw [← hds]; exact coeA_len) fun w I f hf => by rw [← hds]; exact coeA_rel hf
    refine pcall_below fun w I K vs hg hsz hr => ?_
    have h0 := hr 0 (.s a.1) rfl
    have h1 := hr 1 (.i .i64 a.2) rfl
    have hvs : vs = #[.string a.1, .int .i64 a.2] := by
      have hs : vs.size = 2 := hsz
      rw [Array.getD_eq_getD_getElem?, Array.getElem?_eq_getElem (by omega)] at h0 h1
      simp only [Option.getD_some] at h0 h1
      refine Array.ext (by simpa using hs) fun i hi hi' => ?_
      match i, hi with
      | 0, _ => cases h : vs[0] <;> rw [h] at h0 <;> cases h0; rfl
      | 1, _ => cases h : vs[1] <;> rw [h] at h1 <;> cases h1; rfl
      | i + 2, hi => omega
    subst hvs
    unfold strings_Repeat.f repeatT at hq
    obtain ⟨hb, hq⟩ := cond_some hq
    simp only [Bool.and_eq_true, decide_eq_true_eq] at hb
    obtain ⟨h2, h3, h4⟩ := hb
    injection hq with hq
    subst hq
    obtain ⟨u, hu⟩ : ∃ u : Nat, a.2 = u := ⟨a.2.toNat, by omega⟩
    rw [hu] at h2 h3 h4 ⊢
    rw [Int.toNat_natCast] at h4 ⊢
    refine (Any.strings_Repeat Tryz.lays105 repExtra a.1 u w (by omega) h4).mono ?_
    rintro e w' ⟨rfl, hb⟩
    exact ⟨_, rfl, hb, RelD.s _⟩
  exact fun ds a q => key ds a q
end Go.Proofs.YtopoklifappmcaaGreatDoor
end
section
set_option linter.unusedVariables false
set_option maxRecDepth 100000
namespace Go.Proofs.YtopoklifappmcaaGreatDoor
open Go Go.Fw
abbrev digit_Put.As : Shs := (.cons (.x (.i .u64)) (.cons (.x (.i .i64)) .nil))
abbrev digit_Put.m : Back := [(false, .s), (false, (.i .i64))]
noncomputable abbrev digit_Put.H : HK := hk P G0 E0 J0 [strconv_FormatUint.row, strings_Repeat.row] noLoops 4
theorem digit_Put.rows : TabOK P G0 (tabF [strconv_FormatUint.row, strings_Repeat.row]) := rows_ok (ws := [strconv_FormatUint.row, strings_Repeat.row]) ⟨strconv_FormatUint.row_ok, ⟨strings_Repeat.row_ok, trivial⟩⟩
theorem digit_Put.hok : HKOK P digit_Put.H := hk_ok e0_ok j0_ok digit_Put.rows (fun g n => noLoops_ok g n) 4
noncomputable def digit_Put.f (a : (Int × Int)) : Option (ByteArray × Int) := (bif (decide ((a.2 < (1 : Int)))) then (some ((bs []), (1 : Int))) else (bif (decide ((a.2 > (19 : Int)))) then (some ((bs []), (1 : Int))) else (((strconv_FormatUint.f (a.1, (10 : Int)))).bind fun x2 => (bif (decide (((x2.size : Int) > a.2))) then (some ((bs []), (2 : Int))) else (((strings_Repeat.f ((bs [48]), (IntKind.wrap .i64 (a.2 - (x2.size : Int)))))).bind fun x3 => (bif (Nat.ble (x3.size + x2.size) 9223372036854775807) then (some ((x3 ++ x2), (0 : Int))) else none))))))
theorem digit_Put.ok : ∀ a : Vals digit_Put.As.tys, fnK P digit_Put.H (lp []) 98 digit_Put.As digit_Put.m a some = digit_Put.f a := fun a => by kernel_rfl
noncomputable abbrev digit_Put.row : Row := fnRow 98 digit_Put.As digit_Put.m digit_Put.f
theorem digit_Put.row_ok : RowOK P G0 digit_Put.row := row_told digit_Put.hok (lp_of (l := []) trivial) (fun _ => rfl) digit_Put.ok
noncomputable def digit_Get.f (a : ByteArray) : Option (Int × Int) := (bif ((ByteArray.toList a) == []) then (some ((0 : Int), (1 : Int))) else (bif (decide (((a.size : Int) > (19 : Int)))) then (some ((0 : Int), (1 : Int))) else (((digit_All.f a)).bind fun x1 => (bif (!x1) then (some ((0 : Int), (4 : Int))) else (((strconv_ParseUint.f (a, ((10 : Int), (64 : Int))))).bind fun x2 => (some (x2.1, (0 : Int))))))))
end Go.Proofs.YtopoklifappmcaaGreatDoor
end
section
set_option linter.unusedVariables false
set_option linter.unusedSimpArgs false
namespace Go.Proofs.YtopoklifappmcaaGreatDoor
open Go Go.Fw
def padD : Nat → Nat → List UInt8
  | 0, _ => []
  | k + 1, n => padD k (n / 10) ++ [dgt (n % 10)]
theorem padD_len : ∀ k n, (padD k n).length = k
  | 0, _ => rfl
  | k + 1, n => by simp [padD, padD_len k]
theorem padD_zero : ∀ k, padD k 0 = List.replicate k 48
  | 0 => rfl
  | k + 1 => by
    rw [padD, show 0 / 10 = 0 by rfl, padD_zero k, List.replicate_succ']
    rfl
theorem padD_decP : ∀ (k m n : Nat), n < 10 ^ k → k ≤ m → padD k n = List.replicate (k - (decP m n).length) 48 ++ decP m n
  | 0, m, n, h, _ => by
    have : n = 0 := by simpa using h
    subst this
    cases m <;> simp [padD, decP]
  | k + 1, 0, n, _, h => by omega
  | k + 1, m + 1, n, h, hk => by
    unfold decP
    split
    · rename_i h0; subst h0
      rw [padD_zero]; simp
    · rw [padD, padD_decP k m (n / 10) (by have : 10 ^ (k + 1) = 10 ^ k * 10 := Nat.pow_succ ..; omega) (by omega)]
      simp
theorem padD_dig : ∀ (k n : Nat) (c : UInt8), c ∈ padD k n → 48 ≤ c.toNat ∧ c.toNat ≤ 57
  | 0, _, c, h => by simp [padD] at h
  | k + 1, n, c, h => by
    unfold padD at h
    rcases List.mem_append.1 h with h | h
    · exact padD_dig k _ c h
    · rw [List.mem_singleton.1 h, dgt_nat (by omega)]; omega
theorem repeat_one (c : UInt8) : ∀ n, Lib.repeatL [c] n = List.replicate n c
  | 0 => rfl
  | n + 1 => by rw [Lib.repeatL, repeat_one c n]; rfl
theorem repeat_is {n : Nat} (h : n ≤ 1000) : strings_Repeat.f (bs [48], (n : Int)) = some (bs (List.replicate n 48)) := by
  show repeatT _ _ = _
  unfold repeatT
  have h1 : (0 : Int) ≤ (n : Int) := by omega
  have h2 : (n : Int) ≤ 140737488355328 := by omega
  have h3 : (bs [48]).size * ((n : Int)).toNat ≤ 140737488355328 := by rw [bs_size, Int.toNat_natCast]; simp; omega
  rw [decide_eq_true h1, decide_eq_true h2, decide_eq_true h3, Int.toNat_natCast, bs_list, repeat_one]
  rfl
theorem PutW_is {w n : Nat} (hw : 1 ≤ w ∧ w ≤ 19) (h : n < 10 ^ w) : digit_Put.f ((n : Int), (w : Int)) = some (bs (padD w n), 0) := by
  have h19 : n < 10 ^ 19 := Nat.lt_of_lt_of_le h (Nat.pow_le_pow_right (by omega) hw.2)
  have hf : strconv_FormatUint.f ((n : Int), 10) = some (bs (decF 20 n)) := fmtU_is (by omega)
  have hd : decF 20 n = decP 19 (n / 10) ++ [dgt (n % 10)] := decF_decP 19 n (by omega)
  obtain ⟨v, rfl⟩ : ∃ v, w = v + 1 := ⟨w - 1, by omega⟩
  have hq : n / 10 < 10 ^ v := by have : 10 ^ (v + 1) = 10 ^ v * 10 := Nat.pow_succ ..; omega
  have hp : padD (v + 1) n = List.replicate (v - (decP 19 (n / 10)).length) 48 ++ decP 19 (n / 10) ++ [dgt (n % 10)] := by
    rw [padD, padD_decP v 19 (n / 10) hq (by omega)]
  have hlen : (decP 19 (n / 10)).length ≤ v := by
    have := congrArg List.length (padD_decP v 19 (n / 10) hq (by omega))
    rw [padD_len] at this
    simp at this
    omega
  rw [hd] at hf
  obtain ⟨l, hl⟩ : ∃ l, decP 19 (n / 10) = l := ⟨_, rfl⟩
  rw [hl] at hf hp hlen
  unfold digit_Put.f
  rw [hf, Option.bind_some, hp]
  have g1 : ¬ ((v + 1 : Nat) : Int) < 1 := by omega
  have g2 : ¬ ((v + 1 : Nat) : Int) > 19 := by omega
  have g3 : ¬ ((l ++ [dgt (n % 10)]).length : Int) > ((v + 1 : Nat) : Int) := by simp; omega
  simp only [bs_size, g1, g2, g3, decide_false, cond_false]
  have e1 : IntKind.wrap .i64 (((v + 1 : Nat) : Int) - ((l ++ [dgt (n % 10)]).length : Int)) = ((v - l.length : Nat) : Int) := by
    rw [wrap_i64 (by simp; omega) (by simp; omega)]; simp; omega
  rw [e1, repeat_is (by omega), Option.bind_some]
  simp only [bs_size, bs_append]
  rw [Nat.ble_eq_true_of_le (by simp; omega)]
  simp
def numS (a : Nat) (c : UInt8) : Nat := a * 10 + (c.toNat - 48)
def numL (acc : Nat) (l : List UInt8) : Nat := l.foldl numS acc
theorem numL_cons (acc : Nat) (c : UInt8) (r : List UInt8) : numL acc (c :: r) = numL (acc * 10 + (c.toNat - 48)) r := by unfold numL; rw [List.foldl_cons]; rfl
theorem numL_nil (acc : Nat) : numL acc [] = acc := rfl
theorem numL_app : ∀ (l r : List UInt8) (acc : Nat), numL acc (l ++ r) = numL (numL acc l) r
  | [], _, _ => rfl
  | c :: l, r, acc => by rw [List.cons_append, numL_cons, numL_cons]; exact numL_app l r _
theorem numL_padD : ∀ (k n : Nat), n < 10 ^ k → numL 0 (padD k n) = n
  | 0, n, h => by
    have : n = 0 := by simpa using h
    subst this; rfl
  | k + 1, n, h => by
    rw [padD, numL_app, numL_padD k (n / 10) (by have : 10 ^ (k + 1) = 10 ^ k * 10 := Nat.pow_succ ..; omega)]
    rw [numL_cons, numL_nil, dgt_nat (show n % 10 < 10 by omega)]
    omega
def digL (l : List UInt8) : Prop := ∀ c, c ∈ l → 48 ≤ c.toNat ∧ c.toNat ≤ 57
theorem digL_cons {c : UInt8} {l : List UInt8} (h : digL (c :: l)) : (48 ≤ c.toNat ∧ c.toNat ≤ 57) ∧ digL l := ⟨h c (List.mem_cons_self ..), fun x hx => h x (List.mem_cons_of_mem _ hx)⟩
theorem p18 {acc j : Nat} (h : acc < 10 ^ j) (hj : j ≤ 18) : acc < 1000000000000000000 := by
  have h1 : 10 ^ j ≤ 10 ^ 18 := Nat.pow_le_pow_right (by omega) hj
  have h2 : (10 : Nat) ^ 18 = 1000000000000000000 := by decide
  omega
theorem parseM_num {M : Nat} (hM : 9999999999999999999 ≤ M) : ∀ (l : List UInt8) (acc j : Nat), digL l → acc < 10 ^ j → j + l.length ≤ 19 → Lib.parseUintM M acc l = .ok (numL acc l)
  | [], acc, j, _, _, _ => rfl
  | c :: l, acc, j, hd, h, hj => by
    obtain ⟨h1, h2⟩ := digL_cons hd
    have h3 := p18 h (by simp only [List.length_cons] at hj; omega)
    unfold Lib.parseUintM
    rw [if_pos h1, if_neg (by omega), if_neg (by omega), numL_cons]
    exact parseM_num hM l _ (j + 1) h2 (by have : 10 ^ (j + 1) = 10 ^ j * 10 := Nat.pow_succ ..; omega) (by simp only [List.length_cons] at hj; omega)
theorem m64 : 9999999999999999999 ≤ 2 ^ 64 - 1 := by decide
theorem digitsB_list (l : List UInt8) : digitsB (bs l) = true ↔ digL l := by
  unfold digitsB digL
  rw [List.all_eq_true]
  constructor
  · intro h c hc
    obtain ⟨i, hi, rfl⟩ := List.getElem_of_mem hc
    have := h i (List.mem_range.2 (by rw [bs_size]; exact hi))
    unfold digC at this
    rw [bt_bs, getD_at hi] at this
    simp only [Bool.and_eq_true, decide_eq_true_eq] at this
    omega
  · intro h i hi
    rw [List.mem_range, bs_size] at hi
    have := h _ (List.getElem_mem hi)
    unfold digC
    rw [bt_bs, getD_at hi]
    simp only [Bool.and_eq_true, decide_eq_true_eq]
    omega
theorem GetD_is {l : List UInt8} (hl : 1 ≤ l.length ∧ l.length ≤ 19) (hd : digL l) : digit_Get.f (bs l) = some ((numL 0 l : Int), 0) := by
  have h0 : l ≠ [] := by rintro rfl; simp at hl
  have hn : ¬ ((bs l).size : Int) > 19 := by rw [bs_size]; omega
  have hp : strconv_ParseUint.f (bs l, ((10 : Int), (64 : Int))) = some ((numL 0 l : Int), false) := by
    show (bif _ then _ else _) = _
    rw [bs_size, decide_eq_true (show l.length ≤ 281474976710656 by omega), bs_list]
    unfold parseU Lib.parseUintB
    rw [if_neg h0, parseM_num m64 l 0 0 hd (by simp) (by omega)]
    rfl
  unfold digit_Get.f
  rw [texts_nil, decide_eq_false (fun h => h0 (bs_inj.1 h)), decide_eq_false hn, digit_All_is _ (by rw [bs_size]; omega), (digitsB_list l).2 hd, hp]
  rfl
theorem Get_some {l : List UInt8} (hl : l.length ≤ 1000) : ∃ q, digit_Get.f (bs l) = some q := by
  unfold digit_Get.f
  have hp : strconv_ParseUint.f (bs l, ((10 : Int), (64 : Int))) = some (parseU l) := by
    show (bif _ then _ else _) = _
    rw [bs_size, decide_eq_true (show l.length ≤ 281474976710656 by omega), bs_list]
    rfl
  rw [digit_All_is _ (by rw [bs_size]; omega), hp]
  simp only [Option.bind_some]
  cases (ByteArray.toList (bs l) == []) <;> cases decide (((bs l).size : Int) > 19) <;> cases digitsB (bs l) <;> exact ⟨_, rfl⟩
end Go.Proofs.YtopoklifappmcaaGreatDoor
end
section
namespace Go.Proofs
open Go.Shelf
def Tryz.laysC172_ren : Go.Shelf.Ren := ⟨fun | 172 => 124 | 244 => 153 | 245 => 154 | 247 => 182 | 279 => 183 | 280 => 184 | 281 => 185 | 282 => 186 | 287 => 181 | 316 => 207 | 171 => 99 | 205 => 208 | 321 => 205 | 322 => 206 | 243 => 144 | 246 => 177 | 283 => 194 | 284 => 195 | 285 => 196 | 286 => 197 | 129 => 140 | 317 => 216 | 318 => 217 | 319 => 218 | 320 => 219 | 337 => 227 | 338 => 228 | n => n, fun | 9 => 9 | 3 => 3 | 75 => 157 | 76 => 158 | 4 => 4 | 5 => 5 | 167 => 208 | 37 => 178 | 0 => 0 | 85 => 209 | 2 => 2 | 168 => 211 | 53 => 128 | 175 => 179 | 46 => 138 | 210 => 234 | 127 => 229 | 145 => 247 | 143 => 245 | 21 => 21 | 171 => 221 | 173 => 223 | 212 => 239 | 51 => 173 | 20 => 20 | 213 => 240 | 232 => 253 | 233 => 254 | 80 => 204 | n => n, fun | 15 => 1 | 16 => 2 | 17 => 3 | 18 => 6 | 19 => 7 | n => n⟩
theorem Tryz.laysC172 : Go.Proofs.LaysC.n172 Tryz.prog Tryz.laysC172_ren := {
  mixed := by kernel_rfl
  f129 := Tryz.func140.trans (congrArg some (by kernel_rfl))
  f171 := Tryz.func99.trans (congrArg some (by kernel_rfl))
  f172 := Tryz.func124.trans (congrArg some (by kernel_rfl))
  f205 := Tryz.func208.trans (congrArg some (by kernel_rfl))
  f243 := Tryz.func144.trans (congrArg some (by kernel_rfl))
  f244 := Tryz.func153.trans (congrArg some (by kernel_rfl))
  f245 := Tryz.func154.trans (congrArg some (by kernel_rfl))
  f246 := Tryz.func177.trans (congrArg some (by kernel_rfl))
  f247 := Tryz.func182.trans (congrArg some (by kernel_rfl))
  f279 := Tryz.func183.trans (congrArg some (by kernel_rfl))
  f280 := Tryz.func184.trans (congrArg some (by kernel_rfl))
  f281 := Tryz.func185.trans (congrArg some (by kernel_rfl))
  f282 := Tryz.func186.trans (congrArg some (by kernel_rfl))
  f283 := Tryz.func194.trans (congrArg some (by kernel_rfl))
  f284 := Tryz.func195.trans (congrArg some (by kernel_rfl))
  f285 := Tryz.func196.trans (congrArg some (by kernel_rfl))
  f286 := Tryz.func197.trans (congrArg some (by kernel_rfl))
  f287 := Tryz.func181.trans (congrArg some (by kernel_rfl))
  f316 := Tryz.func207.trans (congrArg some (by kernel_rfl))
  f317 := Tryz.func216.trans (congrArg some (by kernel_rfl))
  f318 := Tryz.func217.trans (congrArg some (by kernel_rfl))
  f319 := Tryz.func218.trans (congrArg some (by kernel_rfl))
  f320 := Tryz.func219.trans (congrArg some (by kernel_rfl))
  f321 := Tryz.func205.trans (congrArg some (by kernel_rfl))
  f322 := Tryz.func206.trans (congrArg some (by kernel_rfl))
  f337 := Tryz.func227.trans (congrArg some (by kernel_rfl))
  f338 := Tryz.func228.trans (congrArg some (by kernel_rfl))
  t0 := Tryz.underlying0
  a0 := Tryz.isAgg0
  z0 := Tryz.sizeOf0
  v0 := Tryz.zeroValue0
  t2 := Tryz.underlying2
  a2 := Tryz.isAgg2
  z2 := Tryz.sizeOf2
  v2 := Tryz.zeroValue2
  t3 := Tryz.underlying3
  a3 := Tryz.isAgg3
  z3 := Tryz.sizeOf3
  v3 := Tryz.zeroValue3
  t4 := Tryz.underlying4
  a4 := Tryz.isAgg4
  z4 := Tryz.sizeOf4
  v4 := Tryz.zeroValue4
  t5 := Tryz.underlying5
  a5 := Tryz.isAgg5
  z5 := Tryz.sizeOf5
  v5 := Tryz.zeroValue5
  t9 := Tryz.underlying9
  a9 := Tryz.isAgg9
  z9 := Tryz.sizeOf9
  v9 := Tryz.zeroValue9
  t20 := Tryz.underlying20
  a20 := Tryz.isAgg20
  z20 := Tryz.sizeOf20
  v20 := Tryz.zeroValue20
  t21 := Tryz.underlying21
  a21 := Tryz.isAgg21
  z21 := Tryz.sizeOf21
  v21 := Tryz.zeroValue21
  t37 := Tryz.underlying178
  a37 := Tryz.isAgg178
  z37 := Tryz.sizeOf178
  v37 := Tryz.zeroValue178
  t46 := Tryz.underlying138
  a46 := Tryz.isAgg138
  z46 := Tryz.sizeOf138
  v46 := Tryz.zeroValue138
  t51 := Tryz.underlying173
  a51 := Tryz.isAgg173
  z51 := Tryz.sizeOf173
  v51 := Tryz.zeroValue173
  t53 := Tryz.underlying128
  a53 := Tryz.isAgg128
  z53 := Tryz.sizeOf128
  v53 := Tryz.zeroValue128
  t75 := Tryz.underlying157
  a75 := Tryz.isAgg157
  z75 := Tryz.sizeOf157
  v75 := Tryz.zeroValue157
  t76 := Tryz.underlying158
  a76 := Tryz.isAgg158
  z76 := Tryz.sizeOf158
  v76 := Tryz.zeroValue158
  t85 := Tryz.underlying209
  a85 := Tryz.isAgg209
  z85 := Tryz.sizeOf209
  v85 := Tryz.zeroValue209
  t127 := Tryz.underlying229
  a127 := Tryz.isAgg229
  z127 := Tryz.sizeOf229
  v127 := Tryz.zeroValue229
  t143 := Tryz.underlying245
  a143 := Tryz.isAgg245
  z143 := Tryz.sizeOf245
  v143 := Tryz.zeroValue245
  t145 := Tryz.underlying247
  a145 := Tryz.isAgg247
  z145 := Tryz.sizeOf247
  v145 := Tryz.zeroValue247
  t167 := Tryz.underlying208
  a167 := Tryz.isAgg208
  z167 := Tryz.sizeOf208
  v167 := Tryz.zeroValue208
  t168 := Tryz.underlying211
  a168 := Tryz.isAgg211
  z168 := Tryz.sizeOf211
  v168 := Tryz.zeroValue211
  t171 := Tryz.underlying221
  a171 := Tryz.isAgg221
  z171 := Tryz.sizeOf221
  v171 := Tryz.zeroValue221
  t173 := Tryz.underlying223
  a173 := Tryz.isAgg223
  z173 := Tryz.sizeOf223
  v173 := Tryz.zeroValue223
  t175 := Tryz.underlying179
  a175 := Tryz.isAgg179
  z175 := Tryz.sizeOf179
  v175 := Tryz.zeroValue179
  t210 := Tryz.underlying234
  a210 := Tryz.isAgg234
  z210 := Tryz.sizeOf234
  v210 := Tryz.zeroValue234
  t212 := Tryz.underlying239
  a212 := Tryz.isAgg239
  z212 := Tryz.sizeOf239
  v212 := Tryz.zeroValue239
  t213 := Tryz.underlying240
  a213 := Tryz.isAgg240
  z213 := Tryz.sizeOf240
  t232 := Tryz.underlying253
  a232 := Tryz.isAgg253
  z232 := Tryz.sizeOf253
  v232 := Tryz.zeroValue253
  t233 := Tryz.underlying254
  a233 := Tryz.isAgg254
  z233 := Tryz.sizeOf254
  v233 := Tryz.zeroValue254
  g15 := by kernel_rfl
  g16 := by kernel_rfl
  g17 := by kernel_rfl
  g18 := by kernel_rfl
  g19 := by kernel_rfl
  t80 := Tryz.underlying204
  a80 := Tryz.isAgg204
  z80 := Tryz.sizeOf204
  v80 := Tryz.zeroValue204
  i0 := by kernel_rfl
  i2 := by kernel_rfl
  i3 := by kernel_rfl
  i4 := by kernel_rfl
  i5 := by kernel_rfl
  i9 := by kernel_rfl
  i20 := by kernel_rfl
  i21 := by kernel_rfl
  i37 := by kernel_rfl
  i46 := by kernel_rfl
  i51 := by kernel_rfl
  i53 := by kernel_rfl
  i75 := by kernel_rfl
  i76 := by kernel_rfl
  i80 := by kernel_rfl
  i85 := by kernel_rfl
  i127 := by kernel_rfl
  i143 := by kernel_rfl
  i145 := by kernel_rfl
  i167 := by kernel_rfl
  i168 := by kernel_rfl
  i171 := by kernel_rfl
  i173 := by kernel_rfl
  i175 := by kernel_rfl
  i210 := by kernel_rfl
  i212 := by kernel_rfl
  i232 := by kernel_rfl
  i233 := by kernel_rfl
  m15 := by kernel_rfl
  m16 := by kernel_rfl
  m17 := by kernel_rfl
  m18 := by kernel_rfl
  m19 := by kernel_rfl
  c0 := by kernel_rfl
  c2 := by kernel_rfl
  c3 := by kernel_rfl
  c4 := by kernel_rfl
  c5 := by kernel_rfl
  c9 := by kernel_rfl
  c20 := by kernel_rfl
  c21 := by kernel_rfl
  c37 := by kernel_rfl
  c46 := by kernel_rfl
  c51 := by kernel_rfl
  c53 := by kernel_rfl
  c75 := by kernel_rfl
  c76 := by kernel_rfl
  c80 := by kernel_rfl
  c85 := by kernel_rfl
  c127 := by kernel_rfl
  c143 := by kernel_rfl
  c145 := by kernel_rfl
  c167 := by kernel_rfl
  c168 := by kernel_rfl
  c171 := by kernel_rfl
  c173 := by kernel_rfl
  c175 := by kernel_rfl
  c210 := by kernel_rfl
  c212 := by kernel_rfl
  c213 := by kernel_rfl
  c232 := by kernel_rfl
  c233 := by kernel_rfl }
end Go.Proofs
end
section
set_option linter.unusedVariables false
namespace Go.Proofs.YtopoklifappmcaaGreatDoor
open Go Go.Fw Go.RowKit Go.Shelf
def atoiU (l : List UInt8) : Int × Bool := match Lib.atoiAll l with
  | .ok v => (v, false)
  | Lib.NumEnd.syntax => (0, true)
  | .range => (Lib.atoiSat l, true)
abbrev strconv_Atoi.As : Shs := .cons (.x .s) .nil
abbrev strconv_Atoi.m : Back := [(false, .i .i64), (false, .e)]
abbrev strconv_Atoi.f (a : ByteArray) : Option (Int × Bool) := bif decide (a.size ≤ 281474976710656) then some (atoiU a.data.toList) else none
noncomputable abbrev strconv_Atoi.row : Row := fnRow 124 strconv_Atoi.As strconv_Atoi.m strconv_Atoi.f
theorem atoi_bytes_below (w : World) (t : TypeId) (s : ByteArray) : Below w.heap.size w (Lib.bytesWorld w t s) := by
  unfold Lib.bytesWorld World.freeze
  rw [if_neg (by decide)]
  refine ⟨rfl, rfl, rfl, by simp, fun k hk => ?_⟩
  show ((w.heap.push _).modify _ _)[k]? = _
  rw [Array.getElem?_modify, if_neg (by show ¬ w.heap.size = k; omega), Array.getElem?_push, if_neg (by omega)]
theorem strconv_Atoi.row_ok : RowOK P G1 strconv_Atoi.row := by
  have key : ∀ (ds : List D) (a : ByteArray) (q : Int × Bool), decArgs strconv_Atoi.As ds = some a → strconv_Atoi.f a = some q → Fw.Enters P 124 ∧ PCall P G1 124 ds (.tp [.i .i64 q.1, .er q.2]) := by
    intro ds a q ha hq
    refine ⟨ent_of Tryz.func124 (by kernel_rfl) (by kernel_rfl), ?_⟩
    have hds := (decArgs_argD ha).symm
    refine PCall.coe (ds' := argD strconv_Atoi.As a) ?_ (by rw [← hds]; exact coeA_len) fun w I f hf => by rw [← hds]; exact coeA_rel hf
    refine pcall_below fun w I K vs hg hsz hr => ?_
    have h0 := hr 0 (.s a) rfl
    have hvs : vs = #[.string a] := by
      have hs : vs.size = 1 := hsz
      rw [Array.getD_eq_getD_getElem?, Array.getElem?_eq_getElem (by omega)] at h0
      simp only [Option.getD_some] at h0
      refine Array.ext (by simpa using hs) fun i hi hi' => ?_
      match i, hi with
      | 0, _ => cases h : vs[0] <;> rw [h] at h0 <;> cases h0; rfl
      | i + 1, hi => omega
    subst hvs
    unfold strconv_Atoi.f at hq
    obtain ⟨hb, hq⟩ := cond_some hq
    simp only [decide_eq_true_eq] at hb
    injection hq with hq
    subst hq
    unfold atoiU
    have tup : ∀ (w' : World) (n : Int) (b : Bool) (v : Value), RelD w' I (.er b) v → RelX w' I K (.tp [.i .i64 n, .er b]) (.tuple #[.int .i64 n, v]) := fun w' n b v hv => ⟨_, rfl, RelD.i .i64 n, ⟨hv, trivial, fun b h => by cases b <;> cases h⟩, fun b h => by cases h⟩
    cases hp : Lib.atoiAll a.data.toList with
    | ok u =>
      refine (Any.strconv_Atoi_ok Tryz.laysC172 a (by omega) u hp w).mono ?_
      rintro e w' ⟨rfl, hw⟩
      refine ⟨_, rfl, ?_, tup w' u false _ .er0⟩
      rcases hw with rfl | ⟨t, rfl⟩
      · exact .refl _ _
      · exact atoi_bytes_below _ _ _
    | range =>
      obtain ⟨tp, p, hv⟩ := err_of_glob (P := P) hg (g := 2) (name := "strconv.ErrRange") (by kernel_rfl) rfl
      refine (Any.strconv_Atoi_range_var Tryz.laysC172 a hb hp tp p w hv).mono ?_
      rintro e w' ⟨N, rfl, _, _, hb⟩
      exact ⟨_, rfl, hb, tup w' _ true _ (.er1 _ _)⟩
    | _ =>
      obtain ⟨tp, p, hv⟩ := err_of_glob (P := P) hg (g := 1) (name := "strconv.ErrSyntax") (by kernel_rfl) rfl
      refine (Any.strconv_Atoi_syntax_var Tryz.laysC172 a hb hp tp p w hv).mono ?_
      rintro e w' ⟨N, rfl, _, _, hb⟩
      exact ⟨_, rfl, hb, tup w' 0 true _ (.er1 _ _)⟩
  exact fun ds a q => key ds a q
end Go.Proofs.YtopoklifappmcaaGreatDoor
end
section
set_option linter.unusedVariables false
set_option maxRecDepth 100000
namespace Go.Proofs.YtopoklifappmcaaGreatDoor
open Go Go.Fw
abbrev hold_Text.As : Shs := (.cons (.x T_api_Hold) .nil)
abbrev hold_Text.m : Back := [(false, .s), (false, (.i .i64))]
noncomputable abbrev hold_Text.H : HK := hk P G0 E0 J0 [hold_May.row, digit_Put.row, money_Text.row] noLoops 4
theorem hold_Text.rows : TabOK P G0 (tabF [hold_May.row, digit_Put.row, money_Text.row]) := rows_ok (ws := [hold_May.row, digit_Put.row, money_Text.row]) ⟨hold_May.row_ok, ⟨digit_Put.row_ok, ⟨money_Text.row_ok, trivial⟩⟩⟩
theorem hold_Text.hok : HKOK P hold_Text.H := hk_ok e0_ok j0_ok hold_Text.rows (fun g n => noLoops_ok g n) 4
noncomputable def hold_Text.f (a : (ByteArray × (ByteArray × (ByteArray × (Int × (Int × (Int × Bool))))))) : Option (ByteArray × Int) := (((hold_May.f a)).bind fun x1 => (bif (!x1) then (some ((bs []), (1 : Int))) else (((digit_Put.f ((IntKind.wrap .u64 a.2.2.2.2.2.1), (10 : Int)))).bind fun x2 => (bif a.2.2.2.2.2.2 then (bif (Nat.ble (a.1.size + a.2.1.size) 9223372036854775807) then (bif (Nat.ble ((a.1 ++ a.2.1).size + a.2.2.1.size) 9223372036854775807) then (bif (Nat.ble (((a.1 ++ a.2.1) ++ a.2.2.1).size + x2.1.size) 9223372036854775807) then (bif (Nat.ble ((((a.1 ++ a.2.1) ++ a.2.2.1) ++ x2.1).size + 1) 9223372036854775807) then (((money_Text.f a.2.2.2.1)).bind fun x3 => (bif (Nat.ble (((((a.1 ++ a.2.1) ++ a.2.2.1) ++ x2.1) ++ (bs [111])).size + x3.size) 9223372036854775807) then (bif (Nat.ble ((((((a.1 ++ a.2.1) ++ a.2.2.1) ++ x2.1) ++ (bs [111])) ++ x3).size + 1) 9223372036854775807) then (((money_Text.f a.2.2.2.2.1)).bind fun x4 => (bif (Nat.ble (((((((a.1 ++ a.2.1) ++ a.2.2.1) ++ x2.1) ++ (bs [111])) ++ x3) ++ (bs [32])).size + x4.size) 9223372036854775807) then (some ((((((((a.1 ++ a.2.1) ++ a.2.2.1) ++ x2.1) ++ (bs [111])) ++ x3) ++ (bs [32])) ++ x4), (0 : Int))) else none)) else none) else none)) else none) else none) else none) else none) else (bif (Nat.ble (a.1.size + a.2.1.size) 9223372036854775807) then (bif (Nat.ble ((a.1 ++ a.2.1).size + a.2.2.1.size) 9223372036854775807) then (bif (Nat.ble (((a.1 ++ a.2.1) ++ a.2.2.1).size + x2.1.size) 9223372036854775807) then (bif (Nat.ble ((((a.1 ++ a.2.1) ++ a.2.2.1) ++ x2.1).size + 1) 9223372036854775807) then (((money_Text.f a.2.2.2.1)).bind fun x3 => (bif (Nat.ble (((((a.1 ++ a.2.1) ++ a.2.2.1) ++ x2.1) ++ (bs [99])).size + x3.size) 9223372036854775807) then (bif (Nat.ble ((((((a.1 ++ a.2.1) ++ a.2.2.1) ++ x2.1) ++ (bs [99])) ++ x3).size + 1) 9223372036854775807) then (((money_Text.f a.2.2.2.2.1)).bind fun x4 => (bif (Nat.ble (((((((a.1 ++ a.2.1) ++ a.2.2.1) ++ x2.1) ++ (bs [99])) ++ x3) ++ (bs [32])).size + x4.size) 9223372036854775807) then (some ((((((((a.1 ++ a.2.1) ++ a.2.2.1) ++ x2.1) ++ (bs [99])) ++ x3) ++ (bs [32])) ++ x4), (0 : Int))) else none)) else none) else none)) else none) else none) else none) else none)))))
theorem hold_Text.ok : ∀ a : Vals hold_Text.As.tys, fnK P hold_Text.H (lp []) 47 hold_Text.As hold_Text.m a some = hold_Text.f a := fun a => by kernel_rfl
noncomputable abbrev hold_Text.row : Row := fnRow 47 hold_Text.As hold_Text.m hold_Text.f
theorem hold_Text.row_ok : RowOK P G0 hold_Text.row := row_told hold_Text.hok (lp_of (l := []) trivial) (fun _ => rfl) hold_Text.ok
end Go.Proofs.YtopoklifappmcaaGreatDoor
end
section
set_option linter.unusedVariables false
set_option linter.unusedSimpArgs false
namespace Go.Proofs.YtopoklifappmcaaGreatDoor
open Go Go.Fw
theorem Put_is {n : Nat} (h : n < 10000000000) : digit_Put.f ((n : Int), 10) = some (bs (padD 10 n), 0) := PutW_is (w := 10) (by omega) h
def txtH (h : Hd) : List UInt8 := h.1.data.toList ++ h.2.1.data.toList ++ h.2.2.1.data.toList ++ padD 10 h.2.2.2.2.2.1.toNat ++ [bif h.2.2.2.2.2.2 then 111 else 99] ++ txt h.2.2.2.1 ++ [32] ++ txt h.2.2.2.2.1
theorem may_parts {h : Hd} (hm : mayB h = true) : h.1.size = 12 ∧ h.2.1.size = 6 ∧ h.2.2.1.size = 16 ∧ 0 ≤ h.2.2.2.2.2.1 ∧ h.2.2.2.2.2.1 ≤ 2147483647 ∧ 0 ≤ h.2.2.2.2.1 ∧ h.2.2.2.2.1 ≤ h.2.2.2.1 := by
  unfold mayB refB cardB acqB untilB at hm
  simp only [Bool.and_eq_true, beq_iff_eq, decide_eq_true_eq] at hm
  obtain ⟨⟨a, _⟩, ⟨b, _⟩, ⟨c, _⟩, ⟨d, e⟩, f, g, _⟩ := hm
  exact ⟨a, c, b, d, e, f, g⟩
theorem Text_hold_is {h : Hd} (hs : h.1.size ≤ 4611686018427387904) (ha : Am h.2.2.2.1) : hold_Text.f h = some (bif mayB h then (bs (txtH h), 0) else (bs [], 1)) := by
  unfold hold_Text.f
  rw [hold_May_is h hs, Option.bind_some]
  cases hm : mayB h with
  | false => rfl
  | true =>
    obtain ⟨p1, p2, p3, p4, p5, p6, p7⟩ := may_parts hm
    obtain ⟨rrn, acq, pan, app, cap, unt, op⟩ := h
    simp only at p1 p2 p3 p4 p5 p6 p7 ha ⊢
    obtain ⟨a1, a2⟩ := ha
    have hc : Am cap := ⟨by omega, by omega⟩
    have hu : IntKind.wrap .u64 unt = ((unt.toNat : Nat) : Int) := by rw [wrap_u64]; omega
    have la := txt_len app
    have lc := txt_len cap
    rw [hu, Put_is (by omega), Text_is ⟨a1, a2⟩, Text_is hc]
    unfold txtH
    have lu := padD_len 10 unt.toNat
    obtain ⟨u, hu'⟩ : ∃ u, padD 10 unt.toNat = u := ⟨_, rfl⟩
    obtain ⟨ta, hta⟩ : ∃ u, txt app = u := ⟨_, rfl⟩
    obtain ⟨tc, htc⟩ : ∃ u, txt cap = u := ⟨_, rfl⟩
    rw [hu'] at lu
    rw [hta] at la
    rw [htc] at lc
    simp only [hu', hta, htc]
    rw [eq_bs rrn, bs_size] at p1
    rw [eq_bs acq, bs_size] at p2
    rw [eq_bs pan, bs_size] at p3
    obtain ⟨r, hr⟩ : ∃ u, rrn.data.toList = u := ⟨_, rfl⟩
    obtain ⟨q, hq⟩ : ∃ u, acq.data.toList = u := ⟨_, rfl⟩
    obtain ⟨n, hn⟩ : ∃ u, pan.data.toList = u := ⟨_, rfl⟩
    rw [eq_bs rrn, eq_bs acq, eq_bs pan, hr, hq, hn]
    rw [hr] at p1
    rw [hq] at p2
    rw [hn] at p3
    have b1 : ∀ k, k ≤ 200 → Nat.ble k 9223372036854775807 = true := fun k h => Nat.ble_eq_true_of_le (by omega)
    simp only [Bool.not_true, cond_false, Option.bind_some, bs_append, bs_size, bs_list]
    rw [b1 _ (by omega), b1 _ (by simp; omega), b1 _ (by simp; omega), b1 _ (by simp; omega), b1 _ (by simp; omega), b1 _ (by simp; omega), b1 _ (by simp; omega)]
    cases op
    · simp only [cond_false, cond_true]
      rw [b1 _ (by simp; omega), b1 _ (by simp; omega), b1 _ (by simp; omega)]
      rfl
    · simp only [cond_false, cond_true]
end Go.Proofs.YtopoklifappmcaaGreatDoor
end
section
set_option linter.unusedVariables false
set_option maxRecDepth 100000
namespace Go.Proofs.YtopoklifappmcaaGreatDoor
open Go Go.Fw
abbrev dup_letters.As : Shs := (.cons (.x .s) .nil)
abbrev dup_letters.m : Back := [(false, .b)]
noncomputable abbrev dup_letters.H : HK := hk P G0 E0 J0 [] noLoops 4
theorem dup_letters.rows : TabOK P G0 (tabF []) := rows_ok (ws := []) trivial
theorem dup_letters.hok : HKOK P dup_letters.H := hk_ok e0_ok j0_ok dup_letters.rows (fun g n => noLoops_ok g n) 4
noncomputable abbrev dup_letters.shi0 : SSh := ⟨[(1, (.fn 179 .nil)), (2, (.x .b)), (10, (.pt 0 0))], [.it]⟩
noncomputable abbrev dup_letters.osi0 : PEnds := [(.ret, ⟨[(6, (.x (.i .i64)))], []⟩), ((.exit 0), ⟨[], []⟩)]
noncomputable def dup_letters.ti0 (s : (Bool × (ByteArray × Int))) : Option ((Bool × (ByteArray × Int)) ⊕ (Int ⊕ Unit)) := (bif (Nat.blt (Int.toNat s.2.2) s.2.1.size) then (bif (decide ((((runeD s.2.1 (Int.toNat s.2.2)).1 : Int) < (48 : Int)))) then (bif (decide ((((runeD s.2.1 (Int.toNat s.2.2)).1 : Int) < (65 : Int)))) then (bif (true == s.1) then (some (.inr (.inl ((Int.toNat s.2.2) : Int)))) else (some (.inl (s.1, (s.2.1, (((Int.toNat s.2.2) + (runeD s.2.1 (Int.toNat s.2.2)).2) : Int)))))) else (bif ((decide ((((runeD s.2.1 (Int.toNat s.2.2)).1 : Int) > (90 : Int)))) == s.1) then (some (.inr (.inl ((Int.toNat s.2.2) : Int)))) else (some (.inl (s.1, (s.2.1, (((Int.toNat s.2.2) + (runeD s.2.1 (Int.toNat s.2.2)).2) : Int))))))) else (bif (decide ((((runeD s.2.1 (Int.toNat s.2.2)).1 : Int) > (57 : Int)))) then (bif (decide ((((runeD s.2.1 (Int.toNat s.2.2)).1 : Int) < (65 : Int)))) then (bif (true == s.1) then (some (.inr (.inl ((Int.toNat s.2.2) : Int)))) else (some (.inl (s.1, (s.2.1, (((Int.toNat s.2.2) + (runeD s.2.1 (Int.toNat s.2.2)).2) : Int)))))) else (bif ((decide ((((runeD s.2.1 (Int.toNat s.2.2)).1 : Int) > (90 : Int)))) == s.1) then (some (.inr (.inl ((Int.toNat s.2.2) : Int)))) else (some (.inl (s.1, (s.2.1, (((Int.toNat s.2.2) + (runeD s.2.1 (Int.toNat s.2.2)).2) : Int))))))) else (bif (false == s.1) then (some (.inr (.inl ((Int.toNat s.2.2) : Int)))) else (some (.inl (s.1, (s.2.1, (((Int.toNat s.2.2) + (runeD s.2.1 (Int.toNat s.2.2)).2) : Int)))))))) else (some (.inr (.inr ()))))
theorem dup_letters.ti0_ok : ∀ s : Vals dup_letters.shi0.tys, turnK P dup_letters.H (lp []) (bodyAt (codeOf P 222) 3) 0 dup_letters.shi0 dup_letters.osi0 s some = dup_letters.ti0 s := fun s => by kernel_rfl
noncomputable def dup_letters.li0 : (Bool × (ByteArray × Int)) → Option (Int ⊕ Unit) := rounds dup_letters.ti0
noncomputable abbrev dup_letters.L1 : ILp := [(222, 0, [(3, (NodeT.summ ⟨dup_letters.shi0, dup_letters.osi0, dup_letters.li0⟩ 0))])]
theorem dup_letters.L1ok : ILpOK P G0 dup_letters.L1 := ⟨⟨(loop_sum dup_letters.hok (by kernel_rfl) (by kernel_rfl) (l := []) trivial dup_letters.shi0 dup_letters.osi0 (by kernel_rfl) dup_letters.ti0 dup_letters.ti0_ok), trivial⟩, trivial⟩
noncomputable abbrev dup_letters.H1 : HK := hk P G0 E0 J0 [] (ilp dup_letters.L1) 4
theorem dup_letters.hok1 : HKOK P dup_letters.H1 := hk_ok e0_ok j0_ok dup_letters.rows (fun g n => ilp_ok dup_letters.L1ok g n) 4
noncomputable def dup_letters.f (a : ByteArray) : Option Bool := (((dup_letters.li0 (true, (a, (0 : Int))))).bind fun x1 => (match x1 with | .inl x2 => (some (!(decide ((x2 ≥ (0 : Int)))))) | .inr x2 => (some true)))
theorem dup_letters.ok : ∀ a : Vals dup_letters.As.tys, fnK P dup_letters.H1 (lp []) 145 dup_letters.As dup_letters.m a some = dup_letters.f a := fun a => by kernel_rfl
noncomputable abbrev dup_letters.row : Row := fnRow 145 dup_letters.As dup_letters.m dup_letters.f
theorem dup_letters.row_ok : RowOK P G0 dup_letters.row := row_told dup_letters.hok1 (lp_of (l := []) trivial) (fun _ => rfl) dup_letters.ok
abbrev dup_may.As : Shs := (.cons (.x T_api_Dup) .nil)
abbrev dup_may.m : Back := [(false, .b)]
noncomputable abbrev dup_may.H : HK := hk P G0 E0 J0 [dup_letters.row, digit_All.row] noLoops 4
theorem dup_may.rows : TabOK P G0 (tabF [dup_letters.row, digit_All.row]) := rows_ok (ws := [dup_letters.row, digit_All.row]) ⟨dup_letters.row_ok, ⟨digit_All.row_ok, trivial⟩⟩
theorem dup_may.hok : HKOK P dup_may.H := hk_ok e0_ok j0_ok dup_may.rows (fun g n => noLoops_ok g n) 4
noncomputable def dup_may.f (a : (Int × (ByteArray × (ByteArray × (ByteArray × Int))))) : Option Bool := (bif (decide ((a.1 < (1 : Int)))) then (some false) else (bif (decide ((a.1 > (2147483647 : Int)))) then (some false) else (bif (decide ((a.2.2.2.2 < (0 : Int)))) then (some false) else (bif (decide ((a.2.2.2.2 > (2147483647 : Int)))) then (some false) else (bif ((a.2.1.size : Int) == (35 : Int)) then (((dup_letters.f a.2.1)).bind fun x1 => (bif x1 then (bif ((a.2.2.1.size : Int) == (2 : Int)) then (((digit_All.f a.2.2.1)).bind fun x2 => (bif x2 then (bif ((a.2.2.2.1.size : Int) == (6 : Int)) then (((digit_All.f a.2.2.2.1)).bind fun x3 => (some x3)) else (some false)) else (some false))) else (some false)) else (some false))) else (some false))))))
theorem dup_may.ok : ∀ a : Vals dup_may.As.tys, fnK P dup_may.H (lp []) 100 dup_may.As dup_may.m a some = dup_may.f a := fun a => by kernel_rfl
noncomputable abbrev dup_may.row : Row := fnRow 100 dup_may.As dup_may.m dup_may.f
theorem dup_may.row_ok : RowOK P G0 dup_may.row := row_told dup_may.hok (lp_of (l := []) trivial) (fun _ => rfl) dup_may.ok
abbrev dup_May.As : Shs := (.cons (.x (.l (.g (.p (.i .i64) (.p .s (.p .s (.p .s (.i .i64)))))))) .nil)
abbrev dup_May.m : Back := [(false, .b)]
noncomputable abbrev dup_May.H : HK := hk P G0 E0 J0 [dup_may.row] noLoops 4
theorem dup_May.rows : TabOK P G0 (tabF [dup_may.row]) := rows_ok (ws := [dup_may.row]) ⟨dup_may.row_ok, trivial⟩
theorem dup_May.hok : HKOK P dup_May.H := hk_ok e0_ok j0_ok dup_May.rows (fun g n => noLoops_ok g n) 4
noncomputable abbrev dup_May.shi0 : SSh := ⟨[(0, (.x (.l (.g (.p (.i .i64) (.p .s (.p .s (.p .s (.i .i64))))))))), (1, (.fn 114 (.cons (.pt 1 0) (.cons (.pt 2 0) .nil)))), (7, (.x (.i .i64))), (8, (.x (.i .i64)))], [.mp .s .b, .box (.cons (.mp 0) .nil), .box (.cons (.x (.i .i64)) .nil), .box (.cons (.x (.i .i64)) (.cons (.x .s) (.cons (.x .s) (.cons (.x .s) (.cons (.x (.i .i64)) .nil)))))]⟩
noncomputable abbrev dup_May.osi0 : PEnds := [(.ret, ⟨[(4, (.x (.i .i64)))], [.mp .s .b, .box (.cons (.mp 0) .nil), .box (.cons (.x (.i .i64)) .nil), .box (.cons (.x (.i .i64)) (.cons (.x .s) (.cons (.x .s) (.cons (.x .s) (.cons (.x (.i .i64)) .nil)))))]⟩), ((.exit 0), ⟨[], [.mp .s .b, .box (.cons (.mp 0) .nil), .box (.cons (.x (.i .i64)) .nil), .box (.cons (.x (.i .i64)) (.cons (.x .s) (.cons (.x .s) (.cons (.x .s) (.cons (.x (.i .i64)) .nil)))))]⟩)]
noncomputable def dup_May.ti0 (s : ((List (Int × (ByteArray × (ByteArray × (ByteArray × Int))))) × (Int × (Int × ((List (ByteArray × Bool)) × (Int × (Int × (ByteArray × (ByteArray × (ByteArray × Int)))))))))) : Option (((List (Int × (ByteArray × (ByteArray × (ByteArray × Int))))) × (Int × (Int × ((List (ByteArray × Bool)) × (Int × (Int × (ByteArray × (ByteArray × (ByteArray × Int))))))))) ⊕ ((Int × ((List (ByteArray × Bool)) × (Int × (Int × (ByteArray × (ByteArray × (ByteArray × Int))))))) ⊕ ((List (ByteArray × Bool)) × (Int × (Int × (ByteArray × (ByteArray × (ByteArray × Int)))))))) := (bif (decide ((s.2.2.1 < s.2.1))) then (bif ((decide (((0 : Int) ≤ s.2.2.1))) && (decide ((s.2.2.1 < ((List.length s.1) : Int))))) then (bif (Ty.keyFit .s (List.getD s.1 (Int.toNat s.2.2.1) (Ty.dflt T_api_Dup)).2.1) then (bif (mgetD .s .b s.2.2.2.1 (List.getD s.1 (Int.toNat s.2.2.1) (Ty.dflt T_api_Dup)).2.1 false) then (bif (Ty.keyFit .s (List.getD s.1 (Int.toNat s.2.2.1) (Ty.dflt T_api_Dup)).2.1) then (some (.inr (.inl (s.2.2.1, ((mput .s .b s.2.2.2.1 (List.getD s.1 (Int.toNat s.2.2.1) (Ty.dflt T_api_Dup)).2.1 true), ((List.getD s.1 (Int.toNat s.2.2.1) (Ty.dflt T_api_Dup)).1, s.2.2.2.2.2)))))) else none) else (bif (Ty.keyFit .s (List.getD s.1 (Int.toNat s.2.2.1) (Ty.dflt T_api_Dup)).2.1) then (bif (decide (((List.getD s.1 (Int.toNat s.2.2.1) (Ty.dflt T_api_Dup)).1 ≤ s.2.2.2.2.1))) then (some (.inr (.inl (s.2.2.1, ((mput .s .b s.2.2.2.1 (List.getD s.1 (Int.toNat s.2.2.1) (Ty.dflt T_api_Dup)).2.1 true), ((List.getD s.1 (Int.toNat s.2.2.1) (Ty.dflt T_api_Dup)).1, s.2.2.2.2.2)))))) else (((dup_may.f (List.getD s.1 (Int.toNat s.2.2.1) (Ty.dflt T_api_Dup)))).bind fun x10 => (bif (!x10) then (some (.inr (.inl (s.2.2.1, ((mput .s .b s.2.2.2.1 (List.getD s.1 (Int.toNat s.2.2.1) (Ty.dflt T_api_Dup)).2.1 true), ((List.getD s.1 (Int.toNat s.2.2.1) (Ty.dflt T_api_Dup)).1, s.2.2.2.2.2)))))) else (some (.inl (s.1, (s.2.1, ((IntKind.wrap .i64 (s.2.2.1 + (1 : Int))), ((mput .s .b s.2.2.2.1 (List.getD s.1 (Int.toNat s.2.2.1) (Ty.dflt T_api_Dup)).2.1 true), ((List.getD s.1 (Int.toNat s.2.2.1) (Ty.dflt T_api_Dup)).1, s.2.2.2.2.2)))))))))) else none)) else none) else none) else (some (.inr (.inr s.2.2.2))))
theorem dup_May.ti0_ok : ∀ s : Vals dup_May.shi0.tys, turnK P dup_May.H (lp []) (bodyAt (codeOf P 149) 3) 4 dup_May.shi0 dup_May.osi0 s some = dup_May.ti0 s := fun s => by kernel_rfl
noncomputable def dup_May.li0 : ((List (Int × (ByteArray × (ByteArray × (ByteArray × Int))))) × (Int × (Int × ((List (ByteArray × Bool)) × (Int × (Int × (ByteArray × (ByteArray × (ByteArray × Int))))))))) → Option ((Int × ((List (ByteArray × Bool)) × (Int × (Int × (ByteArray × (ByteArray × (ByteArray × Int))))))) ⊕ ((List (ByteArray × Bool)) × (Int × (Int × (ByteArray × (ByteArray × (ByteArray × Int))))))) := rounds dup_May.ti0
noncomputable abbrev dup_May.L1 : ILp := [(149, 4, [(3, (NodeT.summ ⟨dup_May.shi0, dup_May.osi0, dup_May.li0⟩ 4))])]
theorem dup_May.L1ok : ILpOK P G0 dup_May.L1 := ⟨⟨(loop_sum dup_May.hok (by kernel_rfl) (by kernel_rfl) (l := []) trivial dup_May.shi0 dup_May.osi0 (by kernel_rfl) dup_May.ti0 dup_May.ti0_ok), trivial⟩, trivial⟩
noncomputable abbrev dup_May.H1 : HK := hk P G0 E0 J0 [dup_may.row] (ilp dup_May.L1) 4
theorem dup_May.hok1 : HKOK P dup_May.H1 := hk_ok e0_ok j0_ok dup_May.rows (fun g n => ilp_ok dup_May.L1ok g n) 4
noncomputable def dup_May.f (a : (List (Int × (ByteArray × (ByteArray × (ByteArray × Int)))))) : Option Bool := (((dup_May.li0 (a, (((List.length a) : Int), ((0 : Int), ([], ((0 : Int), ((0 : Int), ((bs []), ((bs []), ((bs []), (0 : Int)))))))))))).bind fun x1 => (match x1 with | .inl x2 => (bif (decide ((x2.1 ≥ (0 : Int)))) then (bif ((decide (((0 : Int) ≤ x2.1))) && (decide ((x2.1 < ((List.length a) : Int))))) then (bif (decide ((((List.length a) : Int) ≤ (100 : Int)))) then (some false) else (some false)) else none) else (bif (decide ((((List.length a) : Int) ≤ (100 : Int)))) then (some true) else (some false))) | .inr x2 => (bif (decide ((((List.length a) : Int) ≤ (100 : Int)))) then (some true) else (some false))))
theorem dup_May.ok : ∀ a : Vals dup_May.As.tys, fnK P dup_May.H1 (lp []) 63 dup_May.As dup_May.m a some = dup_May.f a := fun a => by kernel_rfl
noncomputable abbrev dup_May.row : Row := fnRow 63 dup_May.As dup_May.m dup_May.f
theorem dup_May.row_ok : RowOK P G0 dup_May.row := row_told dup_May.hok1 (lp_of (l := []) trivial) (fun _ => rfl) dup_May.ok
abbrev dup_Text.As : Shs := (.cons (.x T_api_Dup) .nil)
abbrev dup_Text.m : Back := [(false, .s), (false, (.i .i64))]
noncomputable abbrev dup_Text.H : HK := hk P G0 E0 J0 [digit_Put.row, dup_may.row] noLoops 4
theorem dup_Text.rows : TabOK P G0 (tabF [digit_Put.row, dup_may.row]) := rows_ok (ws := [digit_Put.row, dup_may.row]) ⟨digit_Put.row_ok, ⟨dup_may.row_ok, trivial⟩⟩
theorem dup_Text.hok : HKOK P dup_Text.H := hk_ok e0_ok j0_ok dup_Text.rows (fun g n => noLoops_ok g n) 4
noncomputable def dup_Text.f (a : (Int × (ByteArray × (ByteArray × (ByteArray × Int))))) : Option (ByteArray × Int) := (((dup_may.f a)).bind fun x1 => (bif (!x1) then (some ((bs []), (1 : Int))) else (((digit_Put.f ((IntKind.wrap .u64 a.2.2.2.2), (10 : Int)))).bind fun x2 => (bif (Nat.ble (a.2.1.size + a.2.2.1.size) 9223372036854775807) then (bif (Nat.ble ((a.2.1 ++ a.2.2.1).size + a.2.2.2.1.size) 9223372036854775807) then (bif (Nat.ble (((a.2.1 ++ a.2.2.1) ++ a.2.2.2.1).size + x2.1.size) 9223372036854775807) then (some ((((a.2.1 ++ a.2.2.1) ++ a.2.2.2.1) ++ x2.1), (0 : Int))) else none) else none) else none))))
theorem dup_Text.ok : ∀ a : Vals dup_Text.As.tys, fnK P dup_Text.H (lp []) 45 dup_Text.As dup_Text.m a some = dup_Text.f a := fun a => by kernel_rfl
noncomputable abbrev dup_Text.row : Row := fnRow 45 dup_Text.As dup_Text.m dup_Text.f
theorem dup_Text.row_ok : RowOK P G0 dup_Text.row := row_told dup_Text.hok (lp_of (l := []) trivial) (fun _ => rfl) dup_Text.ok
noncomputable def dup_Parse.f (a : (Int × ByteArray)) : Option ((Int × (ByteArray × (ByteArray × (ByteArray × Int)))) × Int) := (bif ((a.2.size : Int) != (53 : Int)) then (some (((0 : Int), ((bs []), ((bs []), ((bs []), (0 : Int))))), (4 : Int))) else (bif (true && (decide (((43 : Int) ≤ (a.2.size : Int))))) then (((digit_Get.f (ByteArray.extract a.2 43 a.2.size))).bind fun x2 => (bif (true && (decide (((35 : Int) ≤ (a.2.size : Int))))) then (bif (true && (decide (((37 : Int) ≤ (a.2.size : Int))))) then (bif (true && (decide (((43 : Int) ≤ (a.2.size : Int))))) then (bif (x2.2 != (0 : Int)) then (some (((0 : Int), ((bs []), ((bs []), ((bs []), (0 : Int))))), (4 : Int))) else (((dup_may.f (a.1, ((ByteArray.extract a.2 0 35), ((ByteArray.extract a.2 35 37), ((ByteArray.extract a.2 37 43), (IntKind.wrap .i64 x2.1))))))).bind fun x3 => (bif (!x3) then (some (((0 : Int), ((bs []), ((bs []), ((bs []), (0 : Int))))), (4 : Int))) else (some ((a.1, ((ByteArray.extract a.2 0 35), ((ByteArray.extract a.2 35 37), ((ByteArray.extract a.2 37 43), (IntKind.wrap .i64 x2.1))))), (0 : Int)))))) else none) else none) else none)) else none))
noncomputable def shelf_number.f (a : ByteArray) : Option Int := (((digit_Get.f a)).bind fun x1 => (some (IntKind.wrap .i64 x1.1)))
abbrev shelf_ten.As : Shs := (.cons (.x (.i .i64)) .nil)
abbrev shelf_ten.m : Back := [(false, .s)]
noncomputable abbrev shelf_ten.H : HK := hk P G0 E0 J0 [digit_Put.row] noLoops 4
theorem shelf_ten.rows : TabOK P G0 (tabF [digit_Put.row]) := rows_ok (ws := [digit_Put.row]) ⟨digit_Put.row_ok, trivial⟩
theorem shelf_ten.hok : HKOK P shelf_ten.H := hk_ok e0_ok j0_ok shelf_ten.rows (fun g n => noLoops_ok g n) 4
noncomputable def shelf_ten.f (a : Int) : Option ByteArray := (((digit_Put.f ((IntKind.wrap .u64 a), (10 : Int)))).bind fun x1 => (some x1.1))
theorem shelf_ten.ok : ∀ a : Vals shelf_ten.As.tys, fnK P shelf_ten.H (lp []) 46 shelf_ten.As shelf_ten.m a some = shelf_ten.f a := fun a => by kernel_rfl
noncomputable abbrev shelf_ten.row : Row := fnRow 46 shelf_ten.As shelf_ten.m shelf_ten.f
theorem shelf_ten.row_ok : RowOK P G0 shelf_ten.row := row_told shelf_ten.hok (lp_of (l := []) trivial) (fun _ => rfl) shelf_ten.ok
end Go.Proofs.YtopoklifappmcaaGreatDoor
end
section
set_option linter.unusedVariables false
set_option linter.unusedSimpArgs false
namespace Go.Proofs.YtopoklifappmcaaGreatDoor
open Go Go.Fw
abbrev Dp := Int × ByteArray × ByteArray × ByteArray × Int
def zD : Dp := (0, bs [], bs [], bs [], 0)
def okUp (c : UInt8) : Bool := (decide (48 ≤ c.toNat) && decide (c.toNat ≤ 57)) || (decide (65 ≤ c.toNat) && decide (c.toNat ≤ 90))
def upB (s : ByteArray) : Bool := s.data.toList.all okUp
def mayD (x : Dp) : Bool := (decide (1 ≤ x.1) && decide (x.1 ≤ 2147483647)) && (((x.2.1.size == 35) && upB x.2.1) && (((x.2.2.1.size == 2) && digitsB x.2.2.1) && (((x.2.2.2.1.size == 6) && digitsB x.2.2.2.1) && (decide (0 ≤ x.2.2.2.2) && decide (x.2.2.2.2 ≤ 2147483647)))))
theorem letters_step {s : ByteArray} {i : Nat} (hi : i < s.size) : dup_letters.ti0 (true, s, ((i : Nat) : Int)) = some (bif okUp (s.data.toList.getD i 0) then .inl (true, s, ((i + 1 : Nat) : Int)) else .inr (.inl ((i : Nat) : Int))) := by
  have hb : Nat.blt i s.size = true := by rw [Nat.blt_eq]; exact hi
  obtain ⟨c, hc⟩ : ∃ c, s.data.toList.getD i 0 = c := ⟨_, rfl⟩
  rw [hc]
  by_cases c0 : c.toNat < 128
  · have hr : runeD s i = (c.toNat, 1) := by rw [← hc]; exact rune_low hi (by rw [hc]; exact c0)
    unfold dup_letters.ti0 okUp
    simp only [Int.toNat_natCast, hb, cond_true, hr]
    by_cases h1 : c.toNat < 48
    · have e1 : decide (((c.toNat : Nat) : Int) < 48) = true := decide_eq_true (by omega)
      have e2 : decide (((c.toNat : Nat) : Int) < 65) = true := decide_eq_true (by omega)
      have f1 : decide (48 ≤ c.toNat) = false := decide_eq_false (by omega)
      have f2 : decide (65 ≤ c.toNat) = false := decide_eq_false (by omega)
      simp only [e1, e2, f1, f2, cond_true, Bool.false_and, Bool.or_self, cond_false, BEq.rfl]
    · have e1 : decide (((c.toNat : Nat) : Int) < 48) = false := decide_eq_false (by omega)
      have f1 : decide (48 ≤ c.toNat) = true := decide_eq_true (by omega)
      by_cases h2 : c.toNat ≤ 57
      · have e2 : decide (((c.toNat : Nat) : Int) > 57) = false := decide_eq_false (by omega)
        have f2 : decide (c.toNat ≤ 57) = true := decide_eq_true h2
        simp only [e1, e2, f1, f2, cond_true, cond_false, Bool.true_and, Bool.true_or]
        rfl
      · have e2 : decide (((c.toNat : Nat) : Int) > 57) = true := decide_eq_true (by omega)
        have f2 : decide (c.toNat ≤ 57) = false := decide_eq_false h2
        by_cases h3 : c.toNat < 65
        · have e3 : decide (((c.toNat : Nat) : Int) < 65) = true := decide_eq_true (by omega)
          have f3 : decide (65 ≤ c.toNat) = false := decide_eq_false (by omega)
          simp only [e1, e2, e3, f1, f2, f3, cond_true, cond_false, Bool.true_and, Bool.false_and, Bool.or_self, BEq.rfl]
        · have e3 : decide (((c.toNat : Nat) : Int) < 65) = false := decide_eq_false (by omega)
          have f3 : decide (65 ≤ c.toNat) = true := decide_eq_true (by omega)
          by_cases h4 : c.toNat ≤ 90
          · have e4 : decide (((c.toNat : Nat) : Int) > 90) = false := decide_eq_false (by omega)
            have f4 : decide (c.toNat ≤ 90) = true := decide_eq_true h4
            simp only [e1, e2, e3, e4, f1, f2, f3, f4, cond_true, cond_false, Bool.true_and, Bool.false_or]
            rfl
          · have e4 : decide (((c.toNat : Nat) : Int) > 90) = true := decide_eq_true (by omega)
            have f4 : decide (c.toNat ≤ 90) = false := decide_eq_false h4
            simp only [e1, e2, e3, e4, f1, f2, f3, f4, cond_true, cond_false, Bool.true_and, Bool.or_self, BEq.rfl]
  · have h2 : 127 < (runeD s i).1 := rune_high hi (by rw [hc]; omega)
    obtain ⟨x, hx⟩ : ∃ x, runeD s i = x := ⟨_, rfl⟩
    rw [hx] at h2
    have e1 : decide (((x.1 : Nat) : Int) < 48) = false := decide_eq_false (by omega)
    have e2 : decide (((x.1 : Nat) : Int) > 57) = true := decide_eq_true (by omega)
    have e3 : decide (((x.1 : Nat) : Int) < 65) = false := decide_eq_false (by omega)
    have e4 : decide (((x.1 : Nat) : Int) > 90) = true := decide_eq_true (by omega)
    have f2 : decide (c.toNat ≤ 57) = false := decide_eq_false (by omega)
    have f4 : decide (c.toNat ≤ 90) = false := decide_eq_false (by omega)
    unfold dup_letters.ti0 okUp
    simp only [Int.toNat_natCast, hb, cond_true, hx, e1, e2, e3, e4, f2, f4, cond_false, Bool.and_false, Bool.or_self, BEq.rfl]
theorem letters_is (s : ByteArray) : dup_letters.f s = some (upB s) := by
  have hl : s.data.toList.length = s.size := by simp
  have hf := rounds_first (t := dup_letters.ti0) (fun i => (true, s, ((i : Nat) : Int))) (fun i => bif okUp (s.data.toList.getD i 0) then none else some (.inl ((i : Nat) : Int))) (.inr ()) s.size (fun i hi _ => (letters_step hi).trans (by cases okUp (s.data.toList.getD i 0) <;> rfl)) (fun _ => by
    have hb : Nat.blt s.size s.size = false := by rw [← Bool.not_eq_true, Nat.blt_eq]; omega
    simp only [dup_letters.ti0, Int.toNat_natCast, hb, cond_false])
  have hf' : dup_letters.li0 (true, s, 0) = some (((List.range s.size).findSome? (fun i => bif okUp (s.data.toList.getD i 0) then none else some (Sum.inl (β := Unit) ((i : Nat) : Int)))).getD (.inr ())) := hf
  have ha := range_all okUp 0 s.data.toList
  rw [hl] at ha
  unfold dup_letters.f upB
  rw [← ha, hf']
  rcases find_not (n := s.size) (p := fun i => okUp (s.data.toList.getD i 0)) (g := fun i => Sum.inl (β := Unit) ((i : Nat) : Int)) with ⟨i, _, h1, h2⟩ | ⟨h1, h2⟩
  · rw [h1, h2]
    simp only [Option.getD_some, Option.bind_some, decide_eq_true (show ((i : Nat) : Int) ≥ 0 by omega), Bool.not_true]
  · rw [h1, h2]
    rfl
theorem dupMay_is {x : Dp} (h1 : x.2.2.1.size ≤ 4611686018427387904) (h2 : x.2.2.2.1.size ≤ 4611686018427387904) : dup_may.f x = some (mayD x) := by
  obtain ⟨n, k, c, a, t⟩ := x
  unfold dup_may.f mayD
  simp only at h1 h2 ⊢
  have z1 := size_is (s := k) 35
  have z2 := size_is (s := c) 2
  have z3 := size_is (s := a) 6
  rw [show ((35 : Nat) : Int) = 35 from rfl] at z1
  rw [show ((2 : Nat) : Int) = 2 from rfl] at z2
  rw [show ((6 : Nat) : Int) = 6 from rfl] at z3
  simp only [letters_is, digit_All_is c h1, digit_All_is a h2, Option.bind_some, z1, z2, z3]
  by_cases n1 : n < 1
  · rw [decide_eq_true n1, decide_eq_false (show ¬ 1 ≤ n by omega)]; rfl
  by_cases n2 : n > 2147483647
  · rw [decide_eq_false n1, decide_eq_true n2, decide_eq_false (show ¬ n ≤ 2147483647 by omega), Bool.and_false]; rfl
  rw [decide_eq_false n1, decide_eq_false n2, decide_eq_true (show 1 ≤ n by omega), decide_eq_true (show n ≤ 2147483647 by omega)]
  by_cases t1 : t < 0
  · rw [decide_eq_true t1, decide_eq_false (show ¬ 0 ≤ t by omega)]; simp
  by_cases t2 : t > 2147483647
  · rw [decide_eq_false t1, decide_eq_true t2, decide_eq_false (show ¬ t ≤ 2147483647 by omega)]; simp
  rw [decide_eq_false t1, decide_eq_false t2, decide_eq_true (show 0 ≤ t by omega), decide_eq_true (show t ≤ 2147483647 by omega)]
  cases (k.size == 35) <;> cases upB k <;> cases (c.size == 2) <;> cases digitsB c <;> cases (a.size == 6) <;> cases digitsB a <;> rfl
def okD (l : List Dp) (i : Nat) : Bool := mayD (l.getD i zD) && ((decide (i = 0) || decide ((l.getD (i - 1) zD).1 < (l.getD i zD).1)) && !((List.range i).any fun j => decide ((l.getD j zD).2.1 = (l.getD i zD).2.1)))
def mayDs (l : List Dp) : Bool := decide (l.length ≤ 100) && (List.range l.length).all (okD l)
def smallD (x : Dp) : Prop := x.2.1.size ≤ 1000 ∧ x.2.2.1.size ≤ 1000 ∧ x.2.2.2.1.size ≤ 1000
theorem dflt_dup : (Ty.dflt T_api_Dup : Dp) = zD := rfl
def lastD (l : List Dp) : Nat → Int
  | 0 => 0
  | i + 1 => (l.getD i zD).1
theorem dupsMay_is {l : List Dp} (hs : ∀ x ∈ l, smallD x) (hl : l.length ≤ 1000) : dup_May.f l = some (mayDs l) := by
  have at_ : ∀ i, i < l.length → smallD (l.getD i zD) := fun i hi => hs _ (by rw [getD_at hi]; exact List.getElem_mem hi)
  have hf := rounds_first (t := dup_May.ti0) (fun i => (l, (l.length : Int), ((i : Nat) : Int), metT (fun x : Dp => x.2.1) zD l i, lastD l i, 0, bs [], bs [], bs [], 0))
    (fun i => bif okD l i then none else some (.inl (((i : Nat) : Int), metT (fun x : Dp => x.2.1) zD l (i + 1), lastD l (i + 1), 0, bs [], bs [], bs [], 0))) (.inr (metT (fun x : Dp => x.2.1) zD l l.length, lastD l l.length, 0, bs [], bs [], bs [], 0)) l.length (fun i hi _ => by
    obtain ⟨s1, s2, s3⟩ := at_ i hi
    have hw := wrap_up (n := i) (by omega)
    have hk : Ty.keyFit .s (l.getD i zD).2.1 = true := Nat.ble_eq_true_of_le (Nat.le_trans s1 (by decide))
    unfold dup_May.ti0
    rw [dflt_dup]
    simp only [inb hi, cond_true, ge0', Bool.and_self, Int.toNat_natCast, dflt_dup, hk, metT_is (fun x : Dp => x.2.1) zD l, dupMay_is (x := l.getD i zD) (by omega) (by omega), Option.bind_some, hw]
    unfold okD
    cases hm : (List.range i).any fun j => decide ((l.getD j zD).2.1 = (l.getD i zD).2.1)
    · simp only [cond_false, Bool.not_false, Bool.and_true]
      by_cases hd : (l.getD i zD).1 ≤ lastD l i
      · rw [Bool.cond_decide, if_pos hd]
        have : (mayD (l.getD i zD) && (decide (i = 0) || decide ((l.getD (i - 1) zD).1 < (l.getD i zD).1))) = false := by
          cases i with
          | zero =>
            have hd : (l.getD 0 zD).1 ≤ 0 := hd
            unfold mayD
            rw [decide_eq_false (show ¬ 1 ≤ (l.getD 0 zD).1 by omega)]; rfl
          | succ j =>
            have hd : (l.getD (j + 1) zD).1 ≤ (l.getD j zD).1 := hd
            rw [decide_eq_false (show ¬ j + 1 = 0 by omega), Nat.add_sub_cancel, decide_eq_false (show ¬ (l.getD j zD).1 < (l.getD (j + 1) zD).1 by omega)]; simp
        simp only [this]
        rfl
      · rw [Bool.cond_decide, if_neg hd]
        have : (decide (i = 0) || decide ((l.getD (i - 1) zD).1 < (l.getD i zD).1)) = true := by
          cases i with
          | zero => rfl
          | succ j =>
            have hd : ¬ (l.getD (j + 1) zD).1 ≤ (l.getD j zD).1 := hd
            rw [Nat.add_sub_cancel, decide_eq_true (show (l.getD j zD).1 < (l.getD (j + 1) zD).1 by omega), Bool.or_true]
        simp only [this, Bool.and_true]
        cases mayD (l.getD i zD) <;> rfl
    · simp only [cond_true, Bool.not_true, Bool.and_false, cond_false]
      rfl) (fun _ => by simp only [dup_May.ti0, outb, cond_false])
  have hf' : dup_May.li0 (l, (l.length : Int), 0, [], 0, 0, bs [], bs [], bs [], 0) = some (((List.range l.length).findSome? (fun i => bif okD l i then none else some (.inl (((i : Nat) : Int), metT (fun x : Dp => x.2.1) zD l (i + 1), lastD l (i + 1), 0, bs [], bs [], bs [], 0)))).getD (.inr (metT (fun x : Dp => x.2.1) zD l l.length, lastD l l.length, 0, bs [], bs [], bs [], 0))) := hf
  have h100 : decide (((l.length : Nat) : Int) ≤ 100) = decide (l.length ≤ 100) := by rw [decide_eq_decide]; omega
  unfold dup_May.f mayDs
  rw [hf']
  rcases find_not (n := l.length) (p := okD l) (g := fun i => Sum.inl (β := List (ByteArray × Bool) × Int × Int × ByteArray × ByteArray × ByteArray × Int) (((i : Nat) : Int), metT (fun x : Dp => x.2.1) zD l (i + 1), lastD l (i + 1), (0 : Int), bs [], bs [], bs [], (0 : Int))) with ⟨i, hi, g1, g2⟩ | ⟨g1, g2⟩
  · rw [g1, g2]
    simp only [Option.getD_some, Option.bind_some, decide_eq_true (show ((i : Nat) : Int) ≥ 0 by omega), cond_true, ge0', inb hi, Bool.and_self, h100, Bool.and_false]
    cases decide (l.length ≤ 100) <;> rfl
  · rw [g1, g2]
    simp only [Option.getD_none, Option.bind_some, h100, Bool.and_true]
    cases decide (l.length ≤ 100) <;> rfl
end Go.Proofs.YtopoklifappmcaaGreatDoor
end
section
set_option linter.unusedVariables false
set_option linter.unusedSimpArgs false
namespace Go.Proofs.YtopoklifappmcaaGreatDoor
open Go Go.Fw
def txtD (x : Dp) : List UInt8 := x.2.1.data.toList ++ x.2.2.1.data.toList ++ x.2.2.2.1.data.toList ++ padD 10 x.2.2.2.2.toNat
theorem mayD_parts {x : Dp} (h : mayD x = true) : (1 ≤ x.1 ∧ x.1 ≤ 2147483647) ∧ x.2.1.size = 35 ∧ x.2.2.1.size = 2 ∧ x.2.2.2.1.size = 6 ∧ 0 ≤ x.2.2.2.2 ∧ x.2.2.2.2 ≤ 2147483647 := by
  unfold mayD at h
  simp only [Bool.and_eq_true, decide_eq_true_eq, beq_iff_eq] at h
  omega
theorem size_len (s : ByteArray) : s.data.toList.length = s.size := by simp
theorem txtD_len {x : Dp} (h : mayD x = true) : (txtD x).length = 53 := by
  obtain ⟨_, h1, h2, h3, _⟩ := mayD_parts h
  unfold txtD
  simp only [List.length_append, size_len, h1, h2, h3, padD_len]
theorem wrapU {n : Int} (h0 : 0 ≤ n) (h1 : n ≤ 2147483647) : IntKind.wrap .u64 n = ((n.toNat : Nat) : Int) := by
  rw [wrap_u64, Int.emod_eq_of_lt h0 (by omega)]; omega
theorem bs_self (s : ByteArray) : s = bs s.data.toList := eq_bs s
theorem dupTxt_four {x : Dp} : ((x.2.1 ++ x.2.2.1) ++ x.2.2.2.1) ++ bs (padD 10 x.2.2.2.2.toNat) = bs (txtD x) := by
  unfold txtD
  conv => lhs; rw [bs_self x.2.1, bs_self x.2.2.1, bs_self x.2.2.2.1]
  rw [bs_append, bs_append, bs_append]
theorem dupText_is {x : Dp} (hs : smallD x) : dup_Text.f x = some (bif mayD x then (bs (txtD x), 0) else (bs [], 1)) := by
  obtain ⟨s1, s2, s3⟩ := hs
  unfold dup_Text.f
  rw [dupMay_is (by omega) (by omega), Option.bind_some]
  cases hm : mayD x
  · rfl
  · obtain ⟨_, h1, h2, h3, h4, h5⟩ := mayD_parts hm
    have hp := PutW_is (w := 10) (n := x.2.2.2.2.toNat) (by omega) (by omega)
    have hp : digit_Put.f (((x.2.2.2.2.toNat : Nat) : Int), 10) = some (bs (padD 10 x.2.2.2.2.toNat), 0) := hp
    have z1 : (x.2.1 ++ x.2.2.1).size = 37 := by rw [ByteArray.size_append]; omega
    have z2 : (x.2.1 ++ x.2.2.1 ++ x.2.2.2.1).size = 43 := by rw [ByteArray.size_append, z1]; omega
    have z3 : (bs (padD 10 x.2.2.2.2.toNat)).size = 10 := by rw [bs_size, padD_len]
    simp only [Bool.not_true, cond_false, wrapU h4 h5, hp, Option.bind_some, h1, h2, h3, z1, z2, z3, show Nat.ble (35 + 2) 9223372036854775807 = true from rfl, show Nat.ble (37 + 6) 9223372036854775807 = true from rfl, show Nat.ble (43 + 10) 9223372036854775807 = true from rfl, cond_true, dupTxt_four]
theorem ten_is {n : Int} (h0 : 0 ≤ n) (h1 : n ≤ 2147483647) : shelf_ten.f n = some (bs (padD 10 n.toNat)) := by
  have hp : digit_Put.f (((n.toNat : Nat) : Int), 10) = some (bs (padD 10 n.toNat), 0) := PutW_is (w := 10) (by omega) (by omega)
  unfold shelf_ten.f
  rw [wrapU h0 h1, hp]; rfl
theorem padD_digL (k n : Nat) : digL (padD k n) := fun c hc => padD_dig k n c hc
theorem get_padD {n : Nat} (h : n < 10000000000) : digit_Get.f (bs (padD 10 n)) = some ((n : Int), 0) := by
  rw [GetD_is (by rw [padD_len]; omega) (padD_digL 10 n), numL_padD 10 n h]
theorem number_of_ten {n : Nat} (h : n < 10000000000) : shelf_number.f (bs (padD 10 n)) = some (n : Int) := by
  unfold shelf_number.f
  rw [get_padD h, Option.bind_some, wrap_i64 (by omega) (by omega)]
theorem txtD_cut {x : Dp} (h : mayD x = true) : (txtD x).drop 43 = padD 10 x.2.2.2.2.toNat ∧ (txtD x).take 35 = x.2.1.data.toList ∧ ((txtD x).take 37).drop 35 = x.2.2.1.data.toList ∧ ((txtD x).take 43).drop 37 = x.2.2.2.1.data.toList := by
  obtain ⟨_, h1, h2, h3, _⟩ := mayD_parts h
  have l1 : x.2.1.data.toList.length = 35 := by rw [size_len, h1]
  have l2 : x.2.2.1.data.toList.length = 2 := by rw [size_len, h2]
  have l3 : x.2.2.2.1.data.toList.length = 6 := by rw [size_len, h3]
  unfold txtD
  refine ⟨?_, ?_, ?_, ?_⟩
  · rw [List.drop_append_of_le_length (by simp [l1, l2, l3]), List.drop_eq_nil_of_le (by simp [l1, l2, l3]), List.nil_append]
  · rw [List.append_assoc, List.append_assoc, List.take_append_of_le_length (by omega), List.take_of_length_le (by omega)]
  · rw [List.append_assoc, List.take_append_of_le_length (by simp [l1, l2]), List.take_of_length_le (by simp [l1, l2]), List.drop_append_of_le_length (by omega), List.drop_eq_nil_of_le (by omega), List.nil_append]
  · rw [List.take_append_of_le_length (by simp [l1, l2, l3]), List.take_of_length_le (by simp [l1, l2, l3]), List.drop_append_of_le_length (by simp [l1, l2]), List.drop_eq_nil_of_le (by simp [l1, l2]), List.nil_append]
theorem dupParse_of {x : Dp} (h : mayD x = true) : dup_Parse.f (x.1, bs (txtD x)) = some (x, 0) := by
  obtain ⟨hn, h1, h2, h3, h4, h5⟩ := mayD_parts h
  obtain ⟨c1, c2, c3, c4⟩ := txtD_cut h
  have hl := txtD_len h
  have hsz : ((bs (txtD x)).size : Int) = 53 := by rw [bs_size, hl]; rfl
  have hsn : (bs (txtD x)).size = 53 := by rw [bs_size, hl]
  have ht : (txtD x).take 53 = txtD x := List.take_of_length_le (by omega)
  have hx : (x.1, x.2.1, x.2.2.1, x.2.2.2.1, ((x.2.2.2.2.toNat : Nat) : Int)) = x := by
    rw [Int.toNat_of_nonneg h4]
  unfold dup_Parse.f
  simp only [hsz, hsn, bs_extract, ht, c1, c2, c3, c4, List.drop_zero, ← bs_self, show ((53 : Int) != 53) = false from rfl, cond_false, show decide ((43 : Int) ≤ 53) = true from rfl, show decide ((35 : Int) ≤ 53) = true from rfl, show decide ((37 : Int) ≤ 53) = true from rfl, Bool.and_self, cond_true, get_padD (show x.2.2.2.2.toNat < 10000000000 by omega), Option.bind_some, bne_self_eq_false, wrap_i64 (show -9223372036854775808 ≤ ((x.2.2.2.2.toNat : Nat) : Int) by omega) (show ((x.2.2.2.2.toNat : Nat) : Int) ≤ 9223372036854775807 by omega), hx]
  rw [dupMay_is (by omega) (by omega), h]
  rfl
end Go.Proofs.YtopoklifappmcaaGreatDoor
end
section
set_option linter.unusedVariables false
set_option maxRecDepth 100000
namespace Go.Proofs.YtopoklifappmcaaGreatDoor
open Go Go.Fw
abbrev trade_pan.As : Shs := (.cons (.x .s) .nil)
abbrev trade_pan.m : Back := [(false, .b)]
noncomputable abbrev trade_pan.H : HK := hk P G0 E0 J0 [chart_May.row] noLoops 4
theorem trade_pan.rows : TabOK P G0 (tabF [chart_May.row]) := rows_ok (ws := [chart_May.row]) ⟨chart_May.row_ok, trivial⟩
theorem trade_pan.hok : HKOK P trade_pan.H := hk_ok e0_ok j0_ok trade_pan.rows (fun g n => noLoops_ok g n) 4
noncomputable def trade_pan.f (a : ByteArray) : Option Bool := (((chart_May.f ((1 : Int), a))).bind fun x1 => (some x1))
theorem trade_pan.ok : ∀ a : Vals trade_pan.As.tys, fnK P trade_pan.H (lp []) 104 trade_pan.As trade_pan.m a some = trade_pan.f a := fun a => by kernel_rfl
noncomputable abbrev trade_pan.row : Row := fnRow 104 trade_pan.As trade_pan.m trade_pan.f
theorem trade_pan.row_ok : RowOK P G0 trade_pan.row := row_told trade_pan.hok (lp_of (l := []) trivial) (fun _ => rfl) trade_pan.ok
abbrev trade_acq.As : Shs := (.cons (.x .s) .nil)
abbrev trade_acq.m : Back := [(false, .b)]
noncomputable abbrev trade_acq.H : HK := hk P G0 E0 J0 [chart_May.row] noLoops 4
theorem trade_acq.rows : TabOK P G0 (tabF [chart_May.row]) := rows_ok (ws := [chart_May.row]) ⟨chart_May.row_ok, trivial⟩
theorem trade_acq.hok : HKOK P trade_acq.H := hk_ok e0_ok j0_ok trade_acq.rows (fun g n => noLoops_ok g n) 4
noncomputable def trade_acq.f (a : ByteArray) : Option Bool := (((chart_May.f ((2 : Int), a))).bind fun x1 => (some x1))
theorem trade_acq.ok : ∀ a : Vals trade_acq.As.tys, fnK P trade_acq.H (lp []) 105 trade_acq.As trade_acq.m a some = trade_acq.f a := fun a => by kernel_rfl
noncomputable abbrev trade_acq.row : Row := fnRow 105 trade_acq.As trade_acq.m trade_acq.f
theorem trade_acq.row_ok : RowOK P G0 trade_acq.row := row_told trade_acq.hok (lp_of (l := []) trivial) (fun _ => rfl) trade_acq.ok
abbrev trade_May.As : Shs := (.cons (.x T_api_Post) .nil)
abbrev trade_May.m : Back := [(false, .b)]
noncomputable abbrev trade_May.H : HK := hk P G0 E0 J0 [trade_pan.row, trade_acq.row, hold_Ref.row] noLoops 4
theorem trade_May.rows : TabOK P G0 (tabF [trade_pan.row, trade_acq.row, hold_Ref.row]) := rows_ok (ws := [trade_pan.row, trade_acq.row, hold_Ref.row]) ⟨trade_pan.row_ok, ⟨trade_acq.row_ok, ⟨hold_Ref.row_ok, trivial⟩⟩⟩
theorem trade_May.hok : HKOK P trade_May.H := hk_ok e0_ok j0_ok trade_May.rows (fun g n => noLoops_ok g n) 4
noncomputable def trade_May.f (a : (Int × (Int × (ByteArray × (ByteArray × (ByteArray × Int)))))) : Option Bool := (bif (decide ((a.2.1 < (0 : Int)))) then (some false) else (bif (decide ((a.2.1 > (2147483647 : Int)))) then (some false) else (bif (decide ((a.2.2.2.2.2 < (1 : Int)))) then (some false) else (bif (decide ((a.2.2.2.2.2 > (9999999999999 : Int)))) then (some false) else (bif (a.1 == (1 : Int)) then (((trade_pan.f a.2.2.1)).bind fun x1 => (bif x1 then (bif ((ByteArray.toList a.2.2.2.1) == []) then (some ((ByteArray.toList a.2.2.2.2.1) == [])) else (some false)) else (some false))) else (bif (a.1 == (2 : Int)) then (bif (a.1 == (2 : Int)) then (((trade_pan.f a.2.2.1)).bind fun x1 => (bif x1 then (((trade_acq.f a.2.2.2.1)).bind fun x2 => (bif x2 then (((hold_Ref.f a.2.2.2.2.1)).bind fun x3 => (some x3)) else (some false))) else (some false))) else (bif (a.1 == (5 : Int)) then (bif (a.1 == (5 : Int)) then (bif ((ByteArray.toList a.2.2.1) == []) then (((trade_acq.f a.2.2.2.1)).bind fun x1 => (bif x1 then (some ((ByteArray.toList a.2.2.2.2.1) == [])) else (some false))) else (some false)) else (some false)) else (bif (a.1 == (6 : Int)) then (bif ((ByteArray.toList a.2.2.1) == []) then (((trade_acq.f a.2.2.2.1)).bind fun x1 => (bif x1 then (some ((ByteArray.toList a.2.2.2.2.1) == [])) else (some false))) else (some false)) else (some false)))) else (bif (a.1 == (3 : Int)) then (bif (a.1 == (3 : Int)) then (((trade_pan.f a.2.2.1)).bind fun x1 => (bif x1 then (((trade_acq.f a.2.2.2.1)).bind fun x2 => (bif x2 then (((hold_Ref.f a.2.2.2.2.1)).bind fun x3 => (some x3)) else (some false))) else (some false))) else (bif (a.1 == (5 : Int)) then (bif (a.1 == (5 : Int)) then (bif ((ByteArray.toList a.2.2.1) == []) then (((trade_acq.f a.2.2.2.1)).bind fun x1 => (bif x1 then (some ((ByteArray.toList a.2.2.2.2.1) == [])) else (some false))) else (some false)) else (some false)) else (bif (a.1 == (6 : Int)) then (bif ((ByteArray.toList a.2.2.1) == []) then (((trade_acq.f a.2.2.2.1)).bind fun x1 => (bif x1 then (some ((ByteArray.toList a.2.2.2.2.1) == [])) else (some false))) else (some false)) else (some false)))) else (bif (a.1 == (4 : Int)) then (((trade_pan.f a.2.2.1)).bind fun x1 => (bif x1 then (((trade_acq.f a.2.2.2.1)).bind fun x2 => (bif x2 then (((hold_Ref.f a.2.2.2.2.1)).bind fun x3 => (some x3)) else (some false))) else (some false))) else (bif (a.1 == (5 : Int)) then (bif (a.1 == (5 : Int)) then (bif ((ByteArray.toList a.2.2.1) == []) then (((trade_acq.f a.2.2.2.1)).bind fun x1 => (bif x1 then (some ((ByteArray.toList a.2.2.2.2.1) == [])) else (some false))) else (some false)) else (some false)) else (bif (a.1 == (6 : Int)) then (bif ((ByteArray.toList a.2.2.1) == []) then (((trade_acq.f a.2.2.2.1)).bind fun x1 => (bif x1 then (some ((ByteArray.toList a.2.2.2.2.1) == [])) else (some false))) else (some false)) else (some false)))))))))))
theorem trade_May.ok : ∀ a : Vals trade_May.As.tys, fnK P trade_May.H (lp []) 53 trade_May.As trade_May.m a some = trade_May.f a := fun a => by kernel_rfl
noncomputable abbrev trade_May.row : Row := fnRow 53 trade_May.As trade_May.m trade_May.f
theorem trade_May.row_ok : RowOK P G0 trade_May.row := row_told trade_May.hok (lp_of (l := []) trivial) (fun _ => rfl) trade_May.ok
end Go.Proofs.YtopoklifappmcaaGreatDoor
end
section
set_option linter.unusedVariables false
set_option linter.unusedSimpArgs false
namespace Go.Proofs.YtopoklifappmcaaGreatDoor
open Go Go.Fw
abbrev Po := Int × (Int × (ByteArray × (ByteArray × (ByteArray × Int))))
def okNum (p : Po) : Bool := decide (0 ≤ p.2.1) && (decide (p.2.1 ≤ 2147483647) && (decide (1 ≤ p.2.2.2.2.2) && decide (p.2.2.2.2.2 ≤ 9999999999999)))
def mayK (p : Po) : Bool := bif p.1 == 1 then cardB p.2.2.1 && (decide (p.2.2.2.1 = bs []) && decide (p.2.2.2.2.1 = bs []))
  else bif p.1 == 5 || p.1 == 6 then decide (p.2.2.1 = bs []) && (acqB p.2.2.2.1 && decide (p.2.2.2.2.1 = bs []))
  else bif decide (2 ≤ p.1) && decide (p.1 ≤ 4) then cardB p.2.2.1 && (acqB p.2.2.2.1 && refB p.2.2.2.2.1) else false
def mayP (p : Po) : Bool := okNum p && mayK p
theorem tpan_is (s : ByteArray) : trade_pan.f s = some (cardB s) := by
  unfold trade_pan.f
  rw [card_is, Option.bind_some]
theorem tacq_is (s : ByteArray) : trade_acq.f s = some (acqB s) := by
  unfold trade_acq.f
  rw [acq_is, Option.bind_some]
theorem okNum_no {k b : Int} {x y z : ByteArray} {n : Int} : (b < 0 → okNum (k, b, x, y, z, n) = false) ∧ (b > 2147483647 → okNum (k, b, x, y, z, n) = false) ∧ (n < 1 → okNum (k, b, x, y, z, n) = false) ∧ (n > 9999999999999 → okNum (k, b, x, y, z, n) = false) := by
  unfold okNum
  refine ⟨fun h => ?_, fun h => ?_, fun h => ?_, fun h => ?_⟩
  · rw [decide_eq_false (show ¬ (0 : Int) ≤ b by omega)]; rfl
  · rw [decide_eq_false (show ¬ b ≤ (2147483647 : Int) by omega)]; simp
  · rw [decide_eq_false (show ¬ (1 : Int) ≤ n by omega)]; simp
  · rw [decide_eq_false (show ¬ n ≤ (9999999999999 : Int) by omega)]; simp
theorem tradeMay_is {p : Po} (hr : p.2.2.2.2.1.size ≤ 4611686018427387904) : trade_May.f p = some (mayP p) := by
  obtain ⟨k, b, x, y, z, n⟩ := p
  obtain ⟨n1, n2, n3, n4⟩ := okNum_no (k := k) (b := b) (x := x) (y := y) (z := z) (n := n)
  unfold trade_May.f mayP
  simp only
  by_cases h1 : b < 0
  · simp only [decide_eq_true h1, cond_true, n1 h1, Bool.false_and]
  by_cases h2 : b > 2147483647
  · simp only [decide_eq_false h1, decide_eq_true h2, cond_true, cond_false, n2 h2, Bool.false_and]
  by_cases h3 : n < 1
  · simp only [decide_eq_false h1, decide_eq_false h2, decide_eq_true h3, cond_true, cond_false, n3 h3, Bool.false_and]
  by_cases h4 : n > 9999999999999
  · simp only [decide_eq_false h1, decide_eq_false h2, decide_eq_false h3, decide_eq_true h4, cond_true, cond_false, n4 h4, Bool.false_and]
  have hn : okNum (k, b, x, y, z, n) = true := by
    unfold okNum
    simp only [Bool.and_eq_true, decide_eq_true_eq]
    omega
  have hr' : hold_Ref.f z = some (refB z) := hold_Ref_is z hr
  simp only [decide_eq_false h1, decide_eq_false h2, decide_eq_false h3, decide_eq_false h4, cond_false, hn, Bool.true_and, tpan_is, tacq_is, hr', Option.bind_some, texts_nil]
  unfold mayK
  simp only
  by_cases k1 : k = 1
  · subst k1; cases cardB x <;> cases decide (y = bs []) <;> rfl
  by_cases k2 : k = 2
  · subst k2; cases cardB x <;> cases acqB y <;> cases refB z <;> rfl
  by_cases k3 : k = 3
  · subst k3; cases cardB x <;> cases acqB y <;> cases refB z <;> rfl
  by_cases k4 : k = 4
  · subst k4; cases cardB x <;> cases acqB y <;> cases refB z <;> rfl
  by_cases k5 : k = 5
  · subst k5; cases decide (x = bs []) <;> cases acqB y <;> rfl
  by_cases k6 : k = 6
  · subst k6; cases decide (x = bs []) <;> cases acqB y <;> rfl
  have e1 : (k == 1) = false := by simpa using k1
  have e2 : (k == 2) = false := by simpa using k2
  have e3 : (k == 3) = false := by simpa using k3
  have e4 : (k == 4) = false := by simpa using k4
  have e5 : (k == 5) = false := by simpa using k5
  have e6 : (k == 6) = false := by simpa using k6
  have e7 : (decide (2 ≤ k) && decide (k ≤ 4)) = false := by
    simp only [Bool.and_eq_false_iff, decide_eq_false_iff_not]; omega
  simp only [e1, e2, e3, e4, e5, e6, e7, cond_false, Bool.or_false]
theorem mayP_kind {p : Po} (h : mayP p = true) : p.1 = 1 ∨ p.1 = 2 ∨ p.1 = 3 ∨ p.1 = 4 ∨ p.1 = 5 ∨ p.1 = 6 := by
  unfold mayP mayK at h
  simp only [Bool.and_eq_true] at h
  have h := h.2
  by_cases k1 : p.1 = 1
  · exact .inl k1
  have e1 : (p.1 == 1) = false := by simpa using k1
  rw [e1, cond_false] at h
  by_cases k5 : p.1 = 5
  · omega
  by_cases k6 : p.1 = 6
  · omega
  have e5 : (p.1 == 5) = false := by simpa using k5
  have e6 : (p.1 == 6) = false := by simpa using k6
  rw [e5, e6, Bool.or_self, cond_false] at h
  cases hk : (decide (2 ≤ p.1) && decide (p.1 ≤ 4))
  · rw [hk] at h; cases h
  · simp only [Bool.and_eq_true, decide_eq_true_eq] at hk; omega
theorem mayP_num {p : Po} (h : mayP p = true) : (0 ≤ p.2.1 ∧ p.2.1 ≤ 2147483647) ∧ 1 ≤ p.2.2.2.2.2 ∧ p.2.2.2.2.2 ≤ 9999999999999 := by
  unfold mayP okNum at h
  simp only [Bool.and_eq_true, decide_eq_true_eq] at h
  omega
theorem mayP_parts {p : Po} (h : mayP p = true) : (p.1 = 1 → cardB p.2.2.1 = true ∧ p.2.2.2.1 = bs [] ∧ p.2.2.2.2.1 = bs []) ∧ (p.1 = 5 ∨ p.1 = 6 → p.2.2.1 = bs [] ∧ acqB p.2.2.2.1 = true ∧ p.2.2.2.2.1 = bs []) ∧
    (2 ≤ p.1 ∧ p.1 ≤ 4 → cardB p.2.2.1 = true ∧ acqB p.2.2.2.1 = true ∧ refB p.2.2.2.2.1 = true) := by
  obtain ⟨k, b, x, y, z, n⟩ := p
  unfold mayP mayK at h
  simp only [Bool.and_eq_true] at h
  have h := h.2
  refine ⟨fun hk => ?_, fun hk => ?_, fun hk => ?_⟩
  · have hk : k = 1 := hk
    subst hk
    simp only [BEq.rfl, cond_true, Bool.and_eq_true, decide_eq_true_eq] at h
    exact h
  · have hk : k = 5 ∨ k = 6 := hk
    rcases hk with rfl | rfl
    · simpa using h
    · simpa using h
  · have hk : 2 ≤ k ∧ k ≤ 4 := hk
    have e1 : (k == 1) = false := by simp; omega
    have e5 : (k == 5) = false := by simp; omega
    have e6 : (k == 6) = false := by simp; omega
    simp only [e1, e5, e6, cond_false, Bool.or_self, decide_eq_true hk.1, decide_eq_true hk.2, Bool.and_self, cond_true, Bool.and_eq_true] at h
    exact h
def smallP (p : Po) : Prop := p.2.2.1.size ≤ 20 ∧ p.2.2.2.1.size ≤ 20 ∧ p.2.2.2.2.1.size ≤ 20
end Go.Proofs.YtopoklifappmcaaGreatDoor
end
section
namespace Go.Proofs
open Go.Shelf
def Tryz.laysM171_ren : Go.Shelf.Ren := ⟨fun | 171 => 99 | 243 => 144 | 246 => 177 | 283 => 194 | 284 => 195 | 285 => 196 | 286 => 197 | 129 => 140 | 317 => 216 | 318 => 217 | 319 => 218 | 320 => 219 | 337 => 227 | 338 => 228 | n => n, fun | 3 => 3 | 9 => 9 | 2 => 2 | 4 => 4 | 171 => 221 | 0 => 0 | 53 => 128 | 37 => 178 | 5 => 5 | 173 => 223 | 212 => 239 | 51 => 173 | 20 => 20 | 213 => 240 | 46 => 138 | 232 => 253 | 233 => 254 | n => n, fun | 17 => 3 | 18 => 6 | 19 => 7 | n => n⟩
theorem Tryz.laysM171 : Go.Proofs.LaysM.n171 Tryz.prog Tryz.laysM171_ren := {
  mixed := by kernel_rfl
  f129 := Tryz.func140.trans (congrArg some (by kernel_rfl))
  f171 := Tryz.func99.trans (congrArg some (by kernel_rfl))
  f243 := Tryz.func144.trans (congrArg some (by kernel_rfl))
  f246 := Tryz.func177.trans (congrArg some (by kernel_rfl))
  f283 := Tryz.func194.trans (congrArg some (by kernel_rfl))
  f284 := Tryz.func195.trans (congrArg some (by kernel_rfl))
  f285 := Tryz.func196.trans (congrArg some (by kernel_rfl))
  f286 := Tryz.func197.trans (congrArg some (by kernel_rfl))
  f317 := Tryz.func216.trans (congrArg some (by kernel_rfl))
  f318 := Tryz.func217.trans (congrArg some (by kernel_rfl))
  f319 := Tryz.func218.trans (congrArg some (by kernel_rfl))
  f320 := Tryz.func219.trans (congrArg some (by kernel_rfl))
  f337 := Tryz.func227.trans (congrArg some (by kernel_rfl))
  f338 := Tryz.func228.trans (congrArg some (by kernel_rfl))
  t0 := Tryz.underlying0
  a0 := Tryz.isAgg0
  z0 := Tryz.sizeOf0
  v0 := Tryz.zeroValue0
  t2 := Tryz.underlying2
  a2 := Tryz.isAgg2
  z2 := Tryz.sizeOf2
  v2 := Tryz.zeroValue2
  t3 := Tryz.underlying3
  a3 := Tryz.isAgg3
  z3 := Tryz.sizeOf3
  v3 := Tryz.zeroValue3
  t4 := Tryz.underlying4
  a4 := Tryz.isAgg4
  z4 := Tryz.sizeOf4
  v4 := Tryz.zeroValue4
  t5 := Tryz.underlying5
  a5 := Tryz.isAgg5
  z5 := Tryz.sizeOf5
  v5 := Tryz.zeroValue5
  t9 := Tryz.underlying9
  a9 := Tryz.isAgg9
  z9 := Tryz.sizeOf9
  v9 := Tryz.zeroValue9
  t20 := Tryz.underlying20
  a20 := Tryz.isAgg20
  z20 := Tryz.sizeOf20
  v20 := Tryz.zeroValue20
  t37 := Tryz.underlying178
  a37 := Tryz.isAgg178
  z37 := Tryz.sizeOf178
  v37 := Tryz.zeroValue178
  t46 := Tryz.underlying138
  a46 := Tryz.isAgg138
  z46 := Tryz.sizeOf138
  v46 := Tryz.zeroValue138
  t51 := Tryz.underlying173
  a51 := Tryz.isAgg173
  z51 := Tryz.sizeOf173
  v51 := Tryz.zeroValue173
  t53 := Tryz.underlying128
  a53 := Tryz.isAgg128
  z53 := Tryz.sizeOf128
  v53 := Tryz.zeroValue128
  t171 := Tryz.underlying221
  a171 := Tryz.isAgg221
  z171 := Tryz.sizeOf221
  v171 := Tryz.zeroValue221
  t173 := Tryz.underlying223
  a173 := Tryz.isAgg223
  z173 := Tryz.sizeOf223
  v173 := Tryz.zeroValue223
  t212 := Tryz.underlying239
  a212 := Tryz.isAgg239
  z212 := Tryz.sizeOf239
  v212 := Tryz.zeroValue239
  t213 := Tryz.underlying240
  a213 := Tryz.isAgg240
  z213 := Tryz.sizeOf240
  t232 := Tryz.underlying253
  a232 := Tryz.isAgg253
  z232 := Tryz.sizeOf253
  v232 := Tryz.zeroValue253
  t233 := Tryz.underlying254
  a233 := Tryz.isAgg254
  z233 := Tryz.sizeOf254
  v233 := Tryz.zeroValue254
  g17 := by kernel_rfl
  g18 := by kernel_rfl
  g19 := by kernel_rfl
  i0 := by kernel_rfl
  i2 := by kernel_rfl
  i3 := by kernel_rfl
  i4 := by kernel_rfl
  i5 := by kernel_rfl
  i9 := by kernel_rfl
  i20 := by kernel_rfl
  i37 := by kernel_rfl
  i46 := by kernel_rfl
  i51 := by kernel_rfl
  i53 := by kernel_rfl
  i171 := by kernel_rfl
  i173 := by kernel_rfl
  i212 := by kernel_rfl
  i232 := by kernel_rfl
  i233 := by kernel_rfl
  m17 := by kernel_rfl
  m18 := by kernel_rfl
  m19 := by kernel_rfl }
end Go.Proofs
end
section
set_option linter.unusedVariables false
namespace Go.Proofs.YtopoklifappmcaaGreatDoor
open Go Go.Fw Go.RowKit Go.Shelf
def itoaI (n : Int) : List UInt8 := bif decide (n < 0) then 45 :: decF 20 n.natAbs else decF 20 n.toNat
abbrev strconv_Itoa.As : Shs := .cons (.x (.i .i64)) .nil
abbrev strconv_Itoa.m : Back := [(false, .s)]
abbrev strconv_Itoa.f (a : Int) : Option ByteArray := bif decide (-9223372036854775808 ≤ a) && decide (a ≤ 9223372036854775807) then some (bs (itoaI a)) else none
noncomputable abbrev strconv_Itoa.row : Row := fnRow 99 strconv_Itoa.As strconv_Itoa.m strconv_Itoa.f
theorem itoaI_is {n : Int} (h0 : -9223372036854775808 ≤ n) (h1 : n ≤ 9223372036854775807) : itoaI n = Lib.itoa n := by
  unfold itoaI Lib.itoa
  rw [decF_is 19 _ (by omega)]
  by_cases h : n < 0
  · simp [h]
  · simp only [h, decide_false, cond_false, if_false]
    exact decF_is 19 _ (by omega)
theorem strconv_Itoa.row_ok : RowOK P G0 strconv_Itoa.row := by
  have key : ∀ (ds : List D) (a : Int) (q : ByteArray), decArgs strconv_Itoa.As ds = some a → strconv_Itoa.f a = some q → Fw.Enters P 99 ∧ PCall P G0 99 ds (.s q) := by
    intro ds a q ha hq
    refine ⟨ent_of Tryz.func99 (by kernel_rfl) (by kernel_rfl), ?_⟩
    have hds := (decArgs_argD ha).symm
    refine PCall.coe (ds' := argD strconv_Itoa.As a) ?_ (by rw [← hds]; exact coeA_len) fun w I f hf => by rw [← hds]; exact coeA_rel hf
    refine pcall_below fun w I K vs hg hsz hr => ?_
    have h0 := hr 0 (.i .i64 a) rfl
    have hvs : vs = #[.int .i64 a] := by
      have hs : vs.size = 1 := hsz
      rw [Array.getD_eq_getD_getElem?, Array.getElem?_eq_getElem (by omega)] at h0
      simp only [Option.getD_some] at h0
      refine Array.ext (by simpa using hs) fun i hi hi' => ?_
      match i, hi with
      | 0, _ => cases h : vs[0] <;> rw [h] at h0 <;> cases h0; rfl
      | i + 1, hi => omega
    subst hvs
    unfold strconv_Itoa.f at hq
    obtain ⟨hb, hq⟩ := cond_some hq
    simp only [Bool.and_eq_true, decide_eq_true_eq] at hb
    injection hq with hq
    subst hq
    refine (Any.strconv_Itoa Tryz.laysM171 a hb.1 hb.2 w (tab_of_glob hg (g := 3) (by kernel_rfl) rfl)).mono ?_
    rintro e w' ⟨rfl, k, os, rfl⟩
    refine ⟨_, rfl, grow_below w k os, ?_⟩
    rw [itoaI_is hb.1 hb.2]
    exact RelD.s _
  exact fun ds a q => key ds a q
end Go.Proofs.YtopoklifappmcaaGreatDoor
end
section
set_option linter.unusedVariables false
set_option maxRecDepth 100000
namespace Go.Proofs.YtopoklifappmcaaGreatDoor
open Go Go.Fw
abbrev trade_or.As : Shs := (.cons (.x .s) (.cons (.x (.i .i64)) .nil))
abbrev trade_or.m : Back := [(false, .s)]
noncomputable abbrev trade_or.H : HK := hk P G0 E0 J0 [strings_Repeat.row] noLoops 4
theorem trade_or.rows : TabOK P G0 (tabF [strings_Repeat.row]) := rows_ok (ws := [strings_Repeat.row]) ⟨strings_Repeat.row_ok, trivial⟩
theorem trade_or.hok : HKOK P trade_or.H := hk_ok e0_ok j0_ok trade_or.rows (fun g n => noLoops_ok g n) 4
noncomputable def trade_or.f (a : (ByteArray × Int)) : Option ByteArray := (bif ((ByteArray.toList a.1) == []) then (((strings_Repeat.f ((bs [48]), a.2))).bind fun x2 => (some x2)) else (some a.1))
theorem trade_or.ok : ∀ a : Vals trade_or.As.tys, fnK P trade_or.H (lp []) 102 trade_or.As trade_or.m a some = trade_or.f a := fun a => by kernel_rfl
noncomputable abbrev trade_or.row : Row := fnRow 102 trade_or.As trade_or.m trade_or.f
theorem trade_or.row_ok : RowOK P G0 trade_or.row := row_told trade_or.hok (lp_of (l := []) trivial) (fun _ => rfl) trade_or.ok
abbrev trade_Text.As : Shs := (.cons (.x T_api_Post) .nil)
abbrev trade_Text.m : Back := [(false, .s), (false, (.i .i64))]
noncomputable abbrev trade_Text.H : HK := hk P G0 E0 J0 [trade_May.row, digit_Put.row, strconv_Itoa.row, trade_or.row] noLoops 4
theorem trade_Text.rows : TabOK P G0 (tabF [trade_May.row, digit_Put.row, strconv_Itoa.row, trade_or.row]) := rows_ok (ws := [trade_May.row, digit_Put.row, strconv_Itoa.row, trade_or.row]) ⟨trade_May.row_ok, ⟨digit_Put.row_ok, ⟨strconv_Itoa.row_ok, ⟨trade_or.row_ok, trivial⟩⟩⟩⟩
theorem trade_Text.hok : HKOK P trade_Text.H := hk_ok e0_ok j0_ok trade_Text.rows (fun g n => noLoops_ok g n) 4
noncomputable def trade_Text.f (a : (Int × (Int × (ByteArray × (ByteArray × (ByteArray × Int)))))) : Option (ByteArray × Int) := (((trade_May.f a)).bind fun x1 => (bif (!x1) then (some ((bs []), (1 : Int))) else (((digit_Put.f ((IntKind.wrap .u64 a.2.1), (10 : Int)))).bind fun x2 => (((digit_Put.f ((IntKind.wrap .u64 a.2.2.2.2.2), (14 : Int)))).bind fun x3 => (((strconv_Itoa.f a.1)).bind fun x4 => (bif (Nat.ble (x4.size + x2.1.size) 9223372036854775807) then (((trade_or.f (a.2.2.1, (16 : Int)))).bind fun x5 => (bif (Nat.ble ((x4 ++ x2.1).size + x5.size) 9223372036854775807) then (((trade_or.f (a.2.2.2.1, (6 : Int)))).bind fun x6 => (bif (Nat.ble (((x4 ++ x2.1) ++ x5).size + x6.size) 9223372036854775807) then (((trade_or.f (a.2.2.2.2.1, (12 : Int)))).bind fun x7 => (bif (Nat.ble ((((x4 ++ x2.1) ++ x5) ++ x6).size + x7.size) 9223372036854775807) then (bif (Nat.ble (((((x4 ++ x2.1) ++ x5) ++ x6) ++ x7).size + x3.1.size) 9223372036854775807) then (some ((((((x4 ++ x2.1) ++ x5) ++ x6) ++ x7) ++ x3.1), (0 : Int))) else none) else none)) else none)) else none)) else none))))))
theorem trade_Text.ok : ∀ a : Vals trade_Text.As.tys, fnK P trade_Text.H (lp []) 49 trade_Text.As trade_Text.m a some = trade_Text.f a := fun a => by kernel_rfl
noncomputable abbrev trade_Text.row : Row := fnRow 49 trade_Text.As trade_Text.m trade_Text.f
theorem trade_Text.row_ok : RowOK P G0 trade_Text.row := row_told trade_Text.hok (lp_of (l := []) trivial) (fun _ => rfl) trade_Text.ok
end Go.Proofs.YtopoklifappmcaaGreatDoor
end
section
set_option linter.unusedVariables false
set_option linter.unusedSimpArgs false
namespace Go.Proofs.YtopoklifappmcaaGreatDoor
open Go Go.Fw
def orL (s : ByteArray) (w : Nat) : List UInt8 := bif decide (s = bs []) then List.replicate w 48 else s.data.toList
theorem orL_len {s : ByteArray} {w : Nat} (hs : s.size ≤ 20) (hw : w ≤ 20) : (orL s w).length ≤ 20 := by
  unfold orL
  by_cases h : s = bs []
  · rw [decide_eq_true h, cond_true, List.length_replicate]; exact hw
  · rw [decide_eq_false h, cond_false]; exact hs
theorem or_is {s : ByteArray} {w : Nat} (hw : w ≤ 1000) : trade_or.f (s, (w : Int)) = some (bs (orL s w)) := by
  unfold trade_or.f orL
  simp only [texts_nil]
  by_cases h : s = bs []
  · rw [decide_eq_true h, cond_true, cond_true, repeat_is hw]; rfl
  · rw [decide_eq_false h, cond_false, cond_false, ← eq_bs]
def txtP (p : Po) : List UInt8 := [dgt p.1.toNat] ++ padD 10 p.2.1.toNat ++ orL p.2.2.1 16 ++ orL p.2.2.2.1 6 ++ orL p.2.2.2.2.1 12 ++ padD 14 p.2.2.2.2.2.toNat
theorem ble_small {n : Nat} (h : n ≤ 1000) : Nat.ble n 9223372036854775807 = true := Nat.ble_eq_true_of_le (by omega)
theorem itoa_kind {k : Int} (hk : k = 1 ∨ k = 2 ∨ k = 3 ∨ k = 4 ∨ k = 5 ∨ k = 6) : strconv_Itoa.f k = some (bs [dgt k.toNat]) := by
  rcases hk with rfl | rfl | rfl | rfl | rfl | rfl <;> decide +kernel
theorem tradeText_is {p : Po} (hs : smallP p) : trade_Text.f p = some (bif mayP p then (bs (txtP p), 0) else (bs [], 1)) := by
  have hmay := tradeMay_is (p := p) (by have := hs.2.2; omega)
  unfold trade_Text.f
  rw [hmay, Option.bind_some]
  cases hm : mayP p
  · rfl
  obtain ⟨⟨b0, b1⟩, n0, n1⟩ := mayP_num hm
  have hk := mayP_kind hm
  obtain ⟨k, b, x, y, z, n⟩ := p
  obtain ⟨s1, s2, s3⟩ := hs
  have s1 : x.size ≤ 20 := s1
  have s2 : y.size ≤ 20 := s2
  have s3 : z.size ≤ 20 := s3
  have b0 : 0 ≤ b := b0
  have b1 : b ≤ 2147483647 := b1
  have n0 : 1 ≤ n := n0
  have n1 : n ≤ 9999999999999 := n1
  have hk : k = 1 ∨ k = 2 ∨ k = 3 ∨ k = 4 ∨ k = 5 ∨ k = 6 := hk
  have e1 : IntKind.wrap .u64 b = ((b.toNat : Nat) : Int) := by rw [wrap_u64]; omega
  have e2 : IntKind.wrap .u64 n = ((n.toNat : Nat) : Int) := by rw [wrap_u64]; omega
  have t10 : (10 : Nat) ^ 10 = 10000000000 := by decide
  have t14 : (10 : Nat) ^ 14 = 100000000000000 := by decide
  have p1 : digit_Put.f (((b.toNat : Nat) : Int), (10 : Int)) = some (bs (padD 10 b.toNat), 0) := PutW_is (w := 10) (n := b.toNat) (by omega) (by omega)
  have p2 : digit_Put.f (((n.toNat : Nat) : Int), (14 : Int)) = some (bs (padD 14 n.toNat), 0) := PutW_is (w := 14) (n := n.toNat) (by omega) (by omega)
  have o1 : trade_or.f (x, (16 : Int)) = some (bs (orL x 16)) := or_is (s := x) (w := 16) (by omega)
  have o2 : trade_or.f (y, (6 : Int)) = some (bs (orL y 6)) := or_is (s := y) (w := 6) (by omega)
  have o3 : trade_or.f (z, (12 : Int)) = some (bs (orL z 12)) := or_is (s := z) (w := 12) (by omega)
  have l1 := orL_len (w := 16) s1 (by omega)
  have l2 := orL_len (w := 6) s2 (by omega)
  have l3 := orL_len (w := 12) s3 (by omega)
  have q1 := padD_len 10 b.toNat
  have q2 := padD_len 14 n.toNat
  unfold txtP
  simp only [Bool.not_true, cond_false, cond_true, e1, e2, p1, p2, Option.bind_some, itoa_kind hk, o1, o2, o3, bs_append, bs_size, List.length_append, List.length_cons, List.length_nil]
  rw [ble_small (by omega), cond_true, ble_small (by omega), cond_true, ble_small (by omega), cond_true, ble_small (by omega), cond_true, ble_small (by omega), cond_true]
end Go.Proofs.YtopoklifappmcaaGreatDoor
end
section
set_option linter.unusedVariables false
set_option maxRecDepth 100000
namespace Go.Proofs.YtopoklifappmcaaGreatDoor
open Go Go.Fw
noncomputable def strings_trimRightByte.t2 (s : (ByteArray × Int)) : Option ((ByteArray × Int) ⊕ (ByteArray)) := (bif (decide (((s.1.size : Int) > (0 : Int)))) then (bif ((decide (((0 : Int) ≤ (IntKind.wrap .i64 ((s.1.size : Int) - (1 : Int)))))) && (decide (((IntKind.wrap .i64 ((s.1.size : Int) - (1 : Int))) < (s.1.size : Int))))) then (bif ((bt s.1 (Int.toNat (IntKind.wrap .i64 ((s.1.size : Int) - (1 : Int))))) == s.2) then (bif ((decide (((0 : Int) ≤ (IntKind.wrap .i64 ((s.1.size : Int) - (1 : Int)))))) && (decide (((IntKind.wrap .i64 ((s.1.size : Int) - (1 : Int))) ≤ (s.1.size : Int))))) then (some (.inl ((ByteArray.extract s.1 0 (Int.toNat (IntKind.wrap .i64 ((s.1.size : Int) - (1 : Int))))), s.2))) else none) else (some (.inr s.1))) else none) else (some (.inr s.1)))
noncomputable def strings_trimRightByte.l2 : (ByteArray × Int) → Option (ByteArray) := rounds strings_trimRightByte.t2
noncomputable def strings_trimRightByte.f (a : (ByteArray × Int)) : Option ByteArray := (((strings_trimRightByte.l2 a)).bind fun x2 => (some x2))
noncomputable def strings_trimLeftByte.t2 (s : (ByteArray × Int)) : Option ((ByteArray × Int) ⊕ (ByteArray)) := (bif (decide (((s.1.size : Int) > (0 : Int)))) then (bif (true && (decide (((0 : Int) < (s.1.size : Int))))) then (bif ((bt s.1 0) == s.2) then (bif (true && (decide (((1 : Int) ≤ (s.1.size : Int))))) then (some (.inl ((ByteArray.extract s.1 1 s.1.size), s.2))) else none) else (some (.inr s.1))) else none) else (some (.inr s.1)))
noncomputable def strings_trimLeftByte.l2 : (ByteArray × Int) → Option (ByteArray) := rounds strings_trimLeftByte.t2
noncomputable def strings_trimLeftByte.f (a : (ByteArray × Int)) : Option ByteArray := (((strings_trimLeftByte.l2 a)).bind fun x2 => (some x2))
noncomputable def trade_Parse_1.f (a : ByteArray) : Option ByteArray := (bif ((ByteArray.toList a) == []) then (bif ((ByteArray.toList a) == []) then (some (bs [])) else (some a)) else (((strings_trimRightByte.f (a, (48 : Int)))).bind fun x1 => (((strings_trimLeftByte.f (x1, (48 : Int)))).bind fun x2 => (bif ((ByteArray.toList x2) == []) then (some (bs [])) else (some a)))))
noncomputable def trade_Parse.l9 (s : (ByteArray × (Int × (Int × (ByteArray × (ByteArray × (ByteArray × (Int × (Int × (Int × (ByteArray × (ByteArray × (ByteArray × Int))))))))))))) : Option ((ByteArray × (Bool × (Int × (Int × (ByteArray × (ByteArray × (ByteArray × (Int × (Int × (Int × (ByteArray × (ByteArray × (ByteArray × Int)))))))))))))) := (bif (decide ((s.2.2.2.2.2.2.2.1 ≥ (2 : Int)))) then (some (s.1, (((ByteArray.toList s.2.2.2.2.2.2.2.2.2.2.1) == []), s.2))) else (some (s.1, (false, s.2))))
noncomputable def trade_Parse.l10 (s : (ByteArray × (Bool × (Int × (Int × (ByteArray × (ByteArray × (ByteArray × (Int × (Int × (Int × (ByteArray × (ByteArray × (ByteArray × Int)))))))))))))) : Option ((ByteArray × (Int × (Int × (ByteArray × (ByteArray × (ByteArray × (Int × (Int × (Int × (ByteArray × (ByteArray × (ByteArray × Int))))))))))))) := (bif s.2.1 then (bif (true && (decide (((33 : Int) ≤ (s.1.size : Int))))) then (some (s.1, (s.2.2.1, (s.2.2.2.1, (s.2.2.2.2.1, (s.2.2.2.2.2.1, (s.2.2.2.2.2.2.1, (s.2.2.2.2.2.2.2.1, (s.2.2.2.2.2.2.2.2.1, (s.2.2.2.2.2.2.2.2.2.1, (s.2.2.2.2.2.2.2.2.2.2.1, ((ByteArray.extract s.1 27 33), s.2.2.2.2.2.2.2.2.2.2.2.2)))))))))))) else none) else (some (s.1, s.2.2)))
noncomputable def trade_Parse.l12 (s : (ByteArray × (Int × (Int × (ByteArray × (ByteArray × (ByteArray × (Int × (Int × (Int × (ByteArray × (ByteArray × (ByteArray × Int))))))))))))) : Option ((ByteArray × (Bool × (Int × (Int × (ByteArray × (ByteArray × (ByteArray × (Int × (Int × (Int × (ByteArray × (ByteArray × (ByteArray × Int)))))))))))))) := (bif (decide ((s.2.2.2.2.2.2.2.1 ≥ (2 : Int)))) then (bif (decide ((s.2.2.2.2.2.2.2.1 < (5 : Int)))) then (some (s.1, (((ByteArray.toList s.2.2.2.2.2.2.2.2.2.2.2.1) == []), s.2))) else (some (s.1, (false, s.2)))) else (some (s.1, (false, s.2))))
noncomputable def trade_Parse.l13 (s : (ByteArray × (Bool × (Int × (Int × (ByteArray × (ByteArray × (ByteArray × (Int × (Int × (Int × (ByteArray × (ByteArray × (ByteArray × Int)))))))))))))) : Option ((ByteArray × (Int × (Int × (ByteArray × (ByteArray × (ByteArray × (Int × (Int × (Int × (ByteArray × (ByteArray × (ByteArray × Int))))))))))))) := (bif s.2.1 then (bif (true && (decide (((45 : Int) ≤ (s.1.size : Int))))) then (some (s.1, (s.2.2.1, (s.2.2.2.1, (s.2.2.2.2.1, (s.2.2.2.2.2.1, (s.2.2.2.2.2.2.1, (s.2.2.2.2.2.2.2.1, (s.2.2.2.2.2.2.2.2.1, (s.2.2.2.2.2.2.2.2.2.1, (s.2.2.2.2.2.2.2.2.2.2.1, (s.2.2.2.2.2.2.2.2.2.2.2.1, ((ByteArray.extract s.1 33 45), s.2.2.2.2.2.2.2.2.2.2.2.2.2))))))))))))) else none) else (some (s.1, s.2.2)))
noncomputable def trade_Parse.l15 (s : (ByteArray × (Int × (Int × (ByteArray × (ByteArray × (ByteArray × (Int × (Int × (Int × (ByteArray × (ByteArray × (ByteArray × Int))))))))))))) : Option ((ByteArray × (Bool × (Int × (Int × (ByteArray × (ByteArray × (ByteArray × (Int × (Int × (Int × (ByteArray × (ByteArray × (ByteArray × Int)))))))))))))) := (bif (decide ((s.2.2.2.2.2.2.2.1 < (5 : Int)))) then (some (s.1, (((ByteArray.toList s.2.2.2.2.2.2.2.2.2.1) == []), s.2))) else (some (s.1, (false, s.2))))
noncomputable def trade_Parse.l16 (s : (ByteArray × (Bool × (Int × (Int × (ByteArray × (ByteArray × (ByteArray × (Int × (Int × (Int × (ByteArray × (ByteArray × (ByteArray × Int)))))))))))))) : Option ((ByteArray × (Int × (Int × (ByteArray × (ByteArray × (ByteArray × (Int × (Int × (Int × (ByteArray × (ByteArray × (ByteArray × Int))))))))))))) := (bif s.2.1 then (bif (true && (decide (((27 : Int) ≤ (s.1.size : Int))))) then (some (s.1, (s.2.2.1, (s.2.2.2.1, (s.2.2.2.2.1, (s.2.2.2.2.2.1, (s.2.2.2.2.2.2.1, (s.2.2.2.2.2.2.2.1, (s.2.2.2.2.2.2.2.2.1, (s.2.2.2.2.2.2.2.2.2.1, ((ByteArray.extract s.1 11 27), s.2.2.2.2.2.2.2.2.2.2.2))))))))))) else none) else (some (s.1, s.2.2)))
noncomputable def trade_Parse.f (a : ByteArray) : Option ((Int × (Int × (ByteArray × (ByteArray × (ByteArray × Int))))) × Int) := (bif ((a.size : Int) != (59 : Int)) then (some (((0 : Int), ((0 : Int), ((bs []), ((bs []), ((bs []), (0 : Int)))))), (4 : Int))) else (bif (true && (decide (((1 : Int) ≤ (a.size : Int))))) then (((digit_Get.f (ByteArray.extract a 0 1))).bind fun x1 => (bif (true && (decide (((11 : Int) ≤ (a.size : Int))))) then (((digit_Get.f (ByteArray.extract a 1 11))).bind fun x2 => (bif (true && (decide (((45 : Int) ≤ (a.size : Int))))) then (((digit_Get.f (ByteArray.extract a 45 a.size))).bind fun x3 => (bif (true && (decide (((27 : Int) ≤ (a.size : Int))))) then (((trade_Parse_1.f (ByteArray.extract a 11 27))).bind fun x4 => (bif (true && (decide (((33 : Int) ≤ (a.size : Int))))) then (((trade_Parse_1.f (ByteArray.extract a 27 33))).bind fun x5 => (bif (true && (decide (((45 : Int) ≤ (a.size : Int))))) then (((trade_Parse_1.f (ByteArray.extract a 33 45))).bind fun x6 => (((trade_Parse.l9 (a, ((0 : Int), ((0 : Int), ((bs []), ((bs []), ((bs []), ((0 : Int), ((IntKind.wrap .i64 x1.1), ((IntKind.wrap .i64 x2.1), (x4, (x5, (x6, (IntKind.wrap .i64 x3.1))))))))))))))).bind fun x7 => (((trade_Parse.l10 x7)).bind fun x8 => (((trade_Parse.l12 x8)).bind fun x9 => (((trade_Parse.l13 x9)).bind fun x10 => (((trade_Parse.l15 x10)).bind fun x11 => (((trade_Parse.l16 x11)).bind fun x12 => (((trade_Text.f x12.2.2.2.2.2.2.2)).bind fun x13 => (bif (x13.2 != (0 : Int)) then (some (((0 : Int), ((0 : Int), ((bs []), ((bs []), ((bs []), (0 : Int)))))), (4 : Int))) else (bif (!((ByteArray.toList x13.1) == (ByteArray.toList x12.1))) then (some (((0 : Int), ((0 : Int), ((bs []), ((bs []), ((bs []), (0 : Int)))))), (4 : Int))) else (some (x12.2.2.2.2.2.2.2, (0 : Int))))))))))))) else none)) else none)) else none)) else none)) else none)) else none))
end Go.Proofs.YtopoklifappmcaaGreatDoor
end
section
set_option linter.unusedVariables false
set_option linter.unusedSimpArgs false
namespace Go.Proofs.YtopoklifappmcaaGreatDoor
open Go Go.Fw
def n48 (c : UInt8) : Bool := c == 48
theorem n48_is (c : UInt8) : (((c.toNat : Nat) : Int) == 48) = n48 c := by
  unfold n48
  rw [Bool.eq_iff_iff, beq_iff_eq, beq_iff_eq]
  constructor
  · intro h; exact UInt8.toNat.inj (by show c.toNat = 48; omega)
  · rintro rfl; rfl
theorem trim_right : ∀ (n : Nat) (l : List UInt8), l.length = n → n ≤ 1000 → ∃ r, strings_trimRightByte.l2 (bs l, (48 : Int)) = some (bs r) ∧ r.length ≤ l.length ∧ (r.all n48 = l.all n48 ∧ (l.all n48 = true → r = []))
  | 0, l, hl, _ => by
    have : l = [] := List.eq_nil_of_length_eq_zero hl
    subst this
    refine ⟨[], ?_, by simp, rfl, fun _ => rfl⟩
    unfold strings_trimRightByte.l2
    rw [rounds_end (r := bs [])]
    rfl
  | n + 1, l, hl, hn => by
    rcases List.eq_nil_or_concat l with rfl | ⟨l', c, hlc⟩
    · simp at hl
    rw [List.concat_eq_append] at hlc
    subst hlc
    have hl' : l'.length = n := by simpa using hl
    have h1 : ((bs (l' ++ [c])).size : Int) > 0 := by rw [bs_size, List.length_append, List.length_singleton]; omega
    have hw : IntKind.wrap .i64 (((bs (l' ++ [c])).size : Int) - 1) = ((n : Nat) : Int) := by
      rw [bs_size, List.length_append, List.length_singleton, hl', wrap_i64 (by omega) (by omega)]; omega
    have h2 : ((n : Nat) : Int) < ((bs (l' ++ [c])).size : Int) := by rw [bs_size, List.length_append, List.length_singleton, hl']; omega
    have h3 : ((n : Nat) : Int) ≤ ((bs (l' ++ [c])).size : Int) := by omega
    have hb : bt (bs (l' ++ [c])) n = ((c.toNat : Nat) : Int) := by
      rw [bt_bs, ← hl']
      simp [List.getD_eq_getElem?_getD]
    have he : ByteArray.extract (bs (l' ++ [c])) 0 n = bs l' := by
      rw [bs_extract, ← hl']; simp
    have step : strings_trimRightByte.t2 (bs (l' ++ [c]), (48 : Int)) = some (bif n48 c then .inl (bs l', (48 : Int)) else .inr (bs (l' ++ [c]))) := by
      unfold strings_trimRightByte.t2
      simp only [decide_eq_true h1, cond_true, hw, ge0' n, decide_eq_true h2, decide_eq_true h3, Bool.and_self, Int.toNat_natCast, hb, n48_is, he]
      cases n48 c <;> rfl
    cases hc : n48 c with
    | true =>
      obtain ⟨r, ih, i1, i2, i3⟩ := trim_right n l' hl' (by omega)
      refine ⟨r, ?_, by simp; omega, by rw [i2]; simp [hc], fun h => i3 (by simpa [hc] using h)⟩
      unfold strings_trimRightByte.l2 at ih ⊢
      rw [rounds_next (s' := (bs l', (48 : Int))), ih]
      rw [step, hc]; rfl
    | false =>
      refine ⟨l' ++ [c], ?_, Nat.le_refl _, rfl, fun h => by simp [hc] at h⟩
      unfold strings_trimRightByte.l2
      rw [rounds_end (r := bs (l' ++ [c]))]
      rw [step, hc]; rfl
theorem trim_left : ∀ (l : List UInt8), l.length ≤ 1000 → ∃ r, strings_trimLeftByte.l2 (bs l, (48 : Int)) = some (bs r) ∧ (l.all n48 = true → r = []) ∧ (l.all n48 = false → r ≠ [])
  | [], _ => by
    refine ⟨[], ?_, fun _ => rfl, fun h => by simp at h⟩
    unfold strings_trimLeftByte.l2
    rw [rounds_end (r := bs [])]
    rfl
  | c :: l, hl => by
    have h1 : ((bs (c :: l)).size : Int) > 0 := by rw [bs_size, List.length_cons]; omega
    have h2 : (0 : Int) < ((bs (c :: l)).size : Int) := by omega
    have h3 : (1 : Int) ≤ ((bs (c :: l)).size : Int) := by omega
    have hb : bt (bs (c :: l)) 0 = ((c.toNat : Nat) : Int) := by rw [bt_bs]; rfl
    have he : ByteArray.extract (bs (c :: l)) 1 (bs (c :: l)).size = bs l := by
      rw [bs_extract, bs_size]; simp
    have step : strings_trimLeftByte.t2 (bs (c :: l), (48 : Int)) = some (bif n48 c then .inl (bs l, (48 : Int)) else .inr (bs (c :: l))) := by
      unfold strings_trimLeftByte.t2
      simp only [decide_eq_true h1, cond_true, decide_eq_true h2, decide_eq_true h3, Bool.and_self, hb, n48_is, he]
      cases n48 c <;> rfl
    cases hc : n48 c with
    | true =>
      obtain ⟨r, ih, i1, i2⟩ := trim_left l (by simp at hl; omega)
      refine ⟨r, ?_, fun h => i1 (by simpa [hc] using h), fun h => i2 (by simpa [hc] using h)⟩
      unfold strings_trimLeftByte.l2 at ih ⊢
      rw [rounds_next (s' := (bs l, (48 : Int))), ih]
      rw [step, hc]; rfl
    | false =>
      refine ⟨c :: l, ?_, fun h => by simp [hc] at h, fun _ => by simp⟩
      unfold strings_trimLeftByte.l2
      rw [rounds_end (r := bs (c :: l))]
      rw [step, hc]; rfl
def ownL (l : List UInt8) : List UInt8 := bif l.all n48 then [] else l
theorem own_is {l : List UInt8} (hl : l.length ≤ 1000) : trade_Parse_1.f (bs l) = some (bs (ownL l)) := by
  unfold trade_Parse_1.f ownL strings_trimRightByte.f strings_trimLeftByte.f
  simp only [texts_nil]
  by_cases h : l = []
  · subst h; rfl
  rw [decide_eq_false (fun e => h (bs_inj.1 e)), cond_false]
  obtain ⟨r, h1, h2, h3, h4⟩ := trim_right l.length l rfl hl
  obtain ⟨q, g1, g2, g3⟩ := trim_left r (by omega)
  simp only [h1, Option.bind_some, g1]
  cases ha : l.all n48 with
  | true => rw [g2 (by rw [h3, ha])]; rfl
  | false => rw [decide_eq_false (fun e => g3 (by rw [h3, ha]) (bs_inj.1 e))]; rfl
def zP : Po := (0, 0, bs [], bs [], bs [], 0)
def part (l : List UInt8) (i j : Nat) : List UInt8 := (l.take j).drop i
theorem part_len {l : List UInt8} (i j : Nat) : (part l i j).length ≤ j := by unfold part; simp; omega
def fixA (k : Int) (y e : List UInt8) : List UInt8 := bif decide (k ≥ 2) && decide (y = []) then e else y
def fixR (k : Int) (z e : List UInt8) : List UInt8 := bif (decide (k ≥ 2) && decide (k < 5)) && decide (z = []) then e else z
def fixN (k : Int) (x e : List UInt8) : List UInt8 := bif decide (k < 5) && decide (x = []) then e else x
noncomputable def rawP (l : List UInt8) : Po :=
  (IntKind.wrap .i64 ((digit_Get.f (bs (part l 0 1))).getD (0, 0)).1, IntKind.wrap .i64 ((digit_Get.f (bs (part l 1 11))).getD (0, 0)).1,
   bs (fixN (IntKind.wrap .i64 ((digit_Get.f (bs (part l 0 1))).getD (0, 0)).1) (ownL (part l 11 27)) (part l 11 27)),
   bs (fixA (IntKind.wrap .i64 ((digit_Get.f (bs (part l 0 1))).getD (0, 0)).1) (ownL (part l 27 33)) (part l 27 33)),
   bs (fixR (IntKind.wrap .i64 ((digit_Get.f (bs (part l 0 1))).getD (0, 0)).1) (ownL (part l 33 45)) (part l 33 45)),
   IntKind.wrap .i64 ((digit_Get.f (bs (part l 45 59))).getD (0, 0)).1)
theorem raw_small {l : List UInt8} (hl : l.length = 59) : smallP (rawP l) := by
  have h1 : (part l 11 27).length ≤ 20 := by unfold part; simp; omega
  have h2 : (part l 27 33).length ≤ 20 := by unfold part; simp; omega
  have h3 : (part l 33 45).length ≤ 20 := by unfold part; simp; omega
  have ho : ∀ l : List UInt8, l.length ≤ 20 → (ownL l).length ≤ 20 := fun l h => by unfold ownL; cases l.all n48 <;> simp [h]
  have cb : ∀ (t : Bool) {u v : List UInt8}, v.length ≤ 20 → u.length ≤ 20 → (bif t then u else v).length ≤ 20 := fun t u v h g => by cases t <;> assumption
  refine ⟨?_, ?_, ?_⟩
  · show (bs _).size ≤ 20
    rw [bs_size]; unfold fixN; exact cb _ (ho _ h1) h1
  · show (bs _).size ≤ 20
    rw [bs_size]; unfold fixA; exact cb _ (ho _ h2) h2
  · show (bs _).size ≤ 20
    rw [bs_size]; unfold fixR; exact cb _ (ho _ h3) h3
theorem tradeParse_is {l : List UInt8} (hl : l.length = 59) : trade_Parse.f (bs l) = some (bif mayP (rawP l) && decide (txtP (rawP l) = l) then (rawP l, 0) else (zP, 4)) := by
  have hsz : ((bs l).size : Int) = 59 := by rw [bs_size, hl]; rfl
  have hsn : (bs l).size = 59 := by rw [bs_size, hl]
  obtain ⟨q1, hq1⟩ := Get_some (l := part l 0 1) (by have := part_len (l := l) 0 1; omega)
  obtain ⟨q2, hq2⟩ := Get_some (l := part l 1 11) (by have := part_len (l := l) 1 11; omega)
  obtain ⟨q3, hq3⟩ := Get_some (l := part l 45 59) (by have := part_len (l := l) 45 59; omega)
  have o1 := own_is (l := part l 11 27) (by have := part_len (l := l) 11 27; omega)
  have o2 := own_is (l := part l 27 33) (by have := part_len (l := l) 27 33; omega)
  have o3 := own_is (l := part l 33 45) (by have := part_len (l := l) 33 45; omega)
  have hx : ∀ i j, ByteArray.extract (bs l) i j = bs (part l i j) := fun i j => bs_extract l i j
  have hsm := raw_small hl
  obtain ⟨p, hp⟩ : ∃ p, rawP l = p := ⟨_, rfl⟩
  have hp' := hp
  unfold rawP at hp'
  rw [hq1, hq2, hq3] at hp'
  simp only [Option.getD_some] at hp'
  rw [hp] at hsm ⊢
  have ht := tradeText_is hsm
  unfold trade_Parse.f
  have d1 : decide ((1 : Int) ≤ 59) = true := rfl
  have d2 : decide ((11 : Int) ≤ 59) = true := rfl
  have d3 : decide ((45 : Int) ≤ 59) = true := rfl
  have d4 : decide ((27 : Int) ≤ 59) = true := rfl
  have d5 : decide ((33 : Int) ≤ 59) = true := rfl
  simp only [hsz, hsn, bne_self_eq_false, cond_false, d1, d2, d3, d4, d5, Bool.and_self, cond_true, hx, hq1, hq2, hq3, Option.bind_some, o1, o2, o3]
  have g9 : ∀ (k b a : Int) (x y z : ByteArray), (trade_Parse.l9 (bs l, 0, 0, bs [], bs [], bs [], 0, k, b, x, y, z, a)) = some (bs l, decide (k ≥ 2) && decide (y = bs []), 0, 0, bs [], bs [], bs [], 0, k, b, x, y, z, a) := by
    intro k b a x y z
    unfold trade_Parse.l9
    simp only [texts_nil]
    cases decide (k ≥ 2) <;> rfl
  have g12 : ∀ (k b a : Int) (x y z : ByteArray), (trade_Parse.l12 (bs l, 0, 0, bs [], bs [], bs [], 0, k, b, x, y, z, a)) = some (bs l, (decide (k ≥ 2) && decide (k < 5)) && decide (z = bs []), 0, 0, bs [], bs [], bs [], 0, k, b, x, y, z, a) := by
    intro k b a x y z
    unfold trade_Parse.l12
    simp only [texts_nil]
    cases decide (k ≥ 2) <;> cases decide (k < 5) <;> rfl
  have g15 : ∀ (k b a : Int) (x y z : ByteArray), (trade_Parse.l15 (bs l, 0, 0, bs [], bs [], bs [], 0, k, b, x, y, z, a)) = some (bs l, decide (k < 5) && decide (x = bs []), 0, 0, bs [], bs [], bs [], 0, k, b, x, y, z, a) := by
    intro k b a x y z
    unfold trade_Parse.l15
    simp only [texts_nil]
    cases decide (k < 5) <;> rfl
  have g10 : ∀ (t : Bool) (k b a : Int) (x y z : ByteArray), (trade_Parse.l10 (bs l, t, 0, 0, bs [], bs [], bs [], 0, k, b, x, y, z, a)) = some (bs l, 0, 0, bs [], bs [], bs [], 0, k, b, x, (bif t then bs (part l 27 33) else y), z, a) := by
    intro t k b a x y z
    unfold trade_Parse.l10
    simp only [hsz, d5, Bool.and_self, cond_true, hx]
    cases t <;> rfl
  have g13 : ∀ (t : Bool) (k b a : Int) (x y z : ByteArray), (trade_Parse.l13 (bs l, t, 0, 0, bs [], bs [], bs [], 0, k, b, x, y, z, a)) = some (bs l, 0, 0, bs [], bs [], bs [], 0, k, b, x, y, (bif t then bs (part l 33 45) else z), a) := by
    intro t k b a x y z
    unfold trade_Parse.l13
    simp only [hsz, d3, Bool.and_self, cond_true, hx]
    cases t <;> rfl
  have g16 : ∀ (t : Bool) (k b a : Int) (x y z : ByteArray), (trade_Parse.l16 (bs l, t, 0, 0, bs [], bs [], bs [], 0, k, b, x, y, z, a)) = some (bs l, 0, 0, bs [], bs [], bs [], 0, k, b, (bif t then bs (part l 11 27) else x), y, z, a) := by
    intro t k b a x y z
    unfold trade_Parse.l16
    simp only [hsz, d4, Bool.and_self, cond_true, hx]
    cases t <;> rfl
  simp only [g9, g10, g12, g13, g15, g16, Option.bind_some]
  have bsb : ∀ (t : Bool) (u v : List UInt8), (bif t then bs u else bs v) = bs (bif t then u else v) := fun t u v => by cases t <;> rfl
  have dn : ∀ u : List UInt8, decide (bs u = bs []) = decide (u = []) := fun u => by
    rw [Bool.eq_iff_iff]; simp only [decide_eq_true_eq]; exact bs_inj
  simp only [bsb, dn]
  unfold fixA fixR fixN at hp'
  simp only [hp', ht, Option.bind_some]
  cases hm : mayP p
  · rfl
  · simp only [cond_true, bne_self_eq_false, cond_false, texts_eq, Bool.true_and]
    have : decide (bs (txtP p) = bs l) = decide (txtP p = l) := by
      rw [Bool.eq_iff_iff]; simp only [decide_eq_true_eq]; exact bs_inj
    rw [this]
    cases decide (txtP p = l) <;> rfl
end Go.Proofs.YtopoklifappmcaaGreatDoor
end
section
set_option linter.unusedVariables false
set_option linter.unusedSimpArgs false
namespace Go.Proofs.YtopoklifappmcaaGreatDoor
open Go Go.Fw
theorem part_mid {u v w : List UInt8} {i j : Nat} (hi : i = u.length) (hj : j = u.length + v.length) : part (u ++ v ++ w) i j = v := by
  subst hi; subst hj
  unfold part
  rw [List.take_append, List.take_of_length_le (by simp)]
  simp
theorem card_size {s : ByteArray} (h : cardB s = true) : s.size = 16 := by
  unfold cardB at h
  simp only [Bool.and_eq_true, beq_iff_eq] at h
  exact h.1
theorem acq_size {s : ByteArray} (h : acqB s = true) : s.size = 6 := by
  unfold acqB at h
  simp only [Bool.and_eq_true, beq_iff_eq] at h
  exact h.1
theorem ref_size {s : ByteArray} (h : refB s = true) : s.size = 12 := by
  unfold refB at h
  simp only [Bool.and_eq_true, beq_iff_eq] at h
  exact h.1
theorem not_nil {s : ByteArray} {n : Nat} (h : s.size = n + 1) : s ≠ bs [] := fun e => by
  rw [e] at h
  simp [bs_size] at h
theorem orL_nil (w : Nat) : orL (bs []) w = List.replicate w 48 := by unfold orL; rw [decide_eq_true rfl]; rfl
theorem orL_some {s : ByteArray} {n w : Nat} (h : s.size = n + 1) : orL s w = s.data.toList := by unfold orL; rw [decide_eq_false (not_nil h)]; rfl
theorem own_zero (w : Nat) : ownL (List.replicate w 48) = [] := by
  unfold ownL
  have : (List.replicate w (48 : UInt8)).all n48 = true := by
    rw [List.all_eq_true]
    intro c hc
    rw [(List.mem_replicate.1 hc).2]; rfl
  rw [this]; rfl
theorem own_fix (X : List UInt8) : (bif decide (ownL X = []) then X else ownL X) = X := by
  unfold ownL
  cases h : X.all n48
  · by_cases hx : X = []
    · subst hx; rfl
    · simp [hx]
  · rfl
theorem mayP_small {p : Po} (h : mayP p = true) : smallP p := by
  obtain ⟨a1, a2, a3⟩ := mayP_parts h
  rcases mayP_kind h with hk | hk | hk | hk | hk | hk
  · obtain ⟨h1, h2, h3⟩ := a1 hk
    exact ⟨by have := card_size h1; omega, by rw [h2]; decide, by rw [h3]; decide⟩
  · obtain ⟨h1, h2, h3⟩ := a3 (by omega)
    exact ⟨by have := card_size h1; omega, by have := acq_size h2; omega, by have := ref_size h3; omega⟩
  · obtain ⟨h1, h2, h3⟩ := a3 (by omega)
    exact ⟨by have := card_size h1; omega, by have := acq_size h2; omega, by have := ref_size h3; omega⟩
  · obtain ⟨h1, h2, h3⟩ := a3 (by omega)
    exact ⟨by have := card_size h1; omega, by have := acq_size h2; omega, by have := ref_size h3; omega⟩
  · obtain ⟨h1, h2, h3⟩ := a2 (.inl hk)
    exact ⟨by rw [h1]; decide, by have := acq_size h2; omega, by rw [h3]; decide⟩
  · obtain ⟨h1, h2, h3⟩ := a2 (.inr hk)
    exact ⟨by rw [h1]; decide, by have := acq_size h2; omega, by rw [h3]; decide⟩
theorem dig_padD (k n : Nat) : digL (padD k n) := fun c h => padD_dig k n c h
structure Cut (p : Po) (l : List UInt8) : Prop where
  len : l.length = 59
  k0 : l.getD 0 0 = dgt p.1.toNat
  k : part l 0 1 = [dgt p.1.toNat]
  b : part l 1 11 = padD 10 p.2.1.toNat
  x : part l 11 27 = orL p.2.2.1 16
  y : part l 27 33 = orL p.2.2.2.1 6
  z : part l 33 45 = orL p.2.2.2.2.1 12
  n : part l 45 59 = padD 14 p.2.2.2.2.2.toNat
theorem orL_16 {s : ByteArray} {w : Nat} (h : s = bs [] ∨ s.size = w) : (orL s w).length = w := by
  rcases h with rfl | h
  · rw [orL_nil]; simp
  · unfold orL
    by_cases hs : s = bs []
    · rw [decide_eq_true hs]; simp
    · rw [decide_eq_false hs]; exact h
theorem cut_txt {p : Po} (h : mayP p = true) : Cut p (txtP p) := by
  have sz : (p.2.2.1 = bs [] ∨ p.2.2.1.size = 16) ∧ (p.2.2.2.1 = bs [] ∨ p.2.2.2.1.size = 6) ∧ (p.2.2.2.2.1 = bs [] ∨ p.2.2.2.2.1.size = 12) := by
    obtain ⟨a1, a2, a3⟩ := mayP_parts h
    rcases mayP_kind h with hk | hk | hk | hk | hk | hk
    · obtain ⟨h1, h2, h3⟩ := a1 hk; exact ⟨.inr (card_size h1), .inl h2, .inl h3⟩
    · obtain ⟨h1, h2, h3⟩ := a3 (by omega); exact ⟨.inr (card_size h1), .inr (acq_size h2), .inr (ref_size h3)⟩
    · obtain ⟨h1, h2, h3⟩ := a3 (by omega); exact ⟨.inr (card_size h1), .inr (acq_size h2), .inr (ref_size h3)⟩
    · obtain ⟨h1, h2, h3⟩ := a3 (by omega); exact ⟨.inr (card_size h1), .inr (acq_size h2), .inr (ref_size h3)⟩
    · obtain ⟨h1, h2, h3⟩ := a2 (.inl hk); exact ⟨.inl h1, .inr (acq_size h2), .inl h3⟩
    · obtain ⟨h1, h2, h3⟩ := a2 (.inr hk); exact ⟨.inl h1, .inr (acq_size h2), .inl h3⟩
  obtain ⟨X, hX⟩ : ∃ X, orL p.2.2.1 16 = X := ⟨_, rfl⟩
  obtain ⟨Y, hY⟩ : ∃ Y, orL p.2.2.2.1 6 = Y := ⟨_, rfl⟩
  obtain ⟨Z, hZ⟩ : ∃ Z, orL p.2.2.2.2.1 12 = Z := ⟨_, rfl⟩
  obtain ⟨B, hB⟩ : ∃ B, padD 10 p.2.1.toNat = B := ⟨_, rfl⟩
  obtain ⟨C, hC⟩ : ∃ C, padD 14 p.2.2.2.2.2.toNat = C := ⟨_, rfl⟩
  have l1 : X.length = 16 := hX ▸ orL_16 sz.1
  have l2 : Y.length = 6 := hY ▸ orL_16 sz.2.1
  have l3 : Z.length = 12 := hZ ▸ orL_16 sz.2.2
  have l4 : B.length = 10 := hB ▸ padD_len 10 _
  have l5 : C.length = 14 := hC ▸ padD_len 14 _
  have ht : txtP p = [dgt p.1.toNat] ++ B ++ X ++ Y ++ Z ++ C := by unfold txtP; rw [hX, hY, hZ, hB, hC]
  refine ⟨by rw [ht]; simp [l1, l2, l3, l4, l5], by rw [ht]; rfl, ?_, ?_, ?_, ?_, ?_, ?_⟩
  · rw [ht, show [dgt p.1.toNat] ++ B ++ X ++ Y ++ Z ++ C = [] ++ [dgt p.1.toNat] ++ (B ++ X ++ Y ++ Z ++ C) by simp]
    exact part_mid rfl rfl
  · rw [ht, hB, show [dgt p.1.toNat] ++ B ++ X ++ Y ++ Z ++ C = [dgt p.1.toNat] ++ B ++ (X ++ Y ++ Z ++ C) by simp]
    exact part_mid rfl (by simp [l4])
  · rw [ht, hX, show [dgt p.1.toNat] ++ B ++ X ++ Y ++ Z ++ C = ([dgt p.1.toNat] ++ B) ++ X ++ (Y ++ Z ++ C) by simp]
    exact part_mid (by simp [l4]) (by simp [l4, l1])
  · rw [ht, hY, show [dgt p.1.toNat] ++ B ++ X ++ Y ++ Z ++ C = ([dgt p.1.toNat] ++ B ++ X) ++ Y ++ (Z ++ C) by simp]
    exact part_mid (by simp [l4, l1]) (by simp [l4, l1, l2])
  · rw [ht, hZ]
    exact part_mid (by simp [l4, l1, l2]) (by simp [l4, l1, l2, l3])
  · rw [ht, hC, show [dgt p.1.toNat] ++ B ++ X ++ Y ++ Z ++ C = ([dgt p.1.toNat] ++ B ++ X ++ Y ++ Z) ++ C ++ [] by simp]
    exact part_mid (by simp [l4, l1, l2, l3]) (by simp [l4, l1, l2, l3, l5])
theorem dgt_pad {k : Int} (hk : k = 1 ∨ k = 2 ∨ k = 3 ∨ k = 4 ∨ k = 5 ∨ k = 6) : padD 1 k.toNat = [dgt k.toNat] := by
  rw [padD, padD, List.nil_append, show k.toNat % 10 = k.toNat by omega]
theorem raw_back {p : Po} (h : mayP p = true) : rawP (txtP p) = p := by
  obtain ⟨_, _, c1, c2, c3, c4, c5, c6⟩ := cut_txt h
  obtain ⟨⟨b0, b1⟩, n0, n1⟩ := mayP_num h
  have hk := mayP_kind h
  obtain ⟨a1, a2, a3⟩ := mayP_parts h
  have t10 : (10 : Nat) ^ 10 = 10000000000 := by decide
  have t14 : (10 : Nat) ^ 14 = 100000000000000 := by decide
  have g1 : digit_Get.f (bs [dgt p.1.toNat]) = some (((p.1.toNat : Nat) : Int), 0) := by
    rw [← dgt_pad hk, GetD_is (by rw [padD_len]; omega) (dig_padD _ _), numL_padD 1 _ (by omega)]
  have g2 : digit_Get.f (bs (padD 10 p.2.1.toNat)) = some (((p.2.1.toNat : Nat) : Int), 0) := by
    rw [GetD_is (by rw [padD_len]; omega) (dig_padD _ _), numL_padD 10 _ (by omega)]
  have g3 : digit_Get.f (bs (padD 14 p.2.2.2.2.2.toNat)) = some (((p.2.2.2.2.2.toNat : Nat) : Int), 0) := by
    rw [GetD_is (by rw [padD_len]; omega) (dig_padD _ _), numL_padD 14 _ (by omega)]
  have w1 : IntKind.wrap .i64 ((p.1.toNat : Nat) : Int) = p.1 := by rw [wrap_i64 (by omega) (by omega)]; omega
  have w2 : IntKind.wrap .i64 ((p.2.1.toNat : Nat) : Int) = p.2.1 := by rw [wrap_i64 (by omega) (by omega)]; omega
  have w3 : IntKind.wrap .i64 ((p.2.2.2.2.2.toNat : Nat) : Int) = p.2.2.2.2.2 := by rw [wrap_i64 (by omega) (by omega)]; omega
  unfold rawP
  rw [c1, c2, c3, c4, c5, c6, g1, g2, g3]
  simp only [Option.getD_some, w1, w2, w3]
  have ex : bs (fixN p.1 (ownL (orL p.2.2.1 16)) (orL p.2.2.1 16)) = p.2.2.1 ∧ bs (fixA p.1 (ownL (orL p.2.2.2.1 6)) (orL p.2.2.2.1 6)) = p.2.2.2.1 ∧ bs (fixR p.1 (ownL (orL p.2.2.2.2.1 12)) (orL p.2.2.2.2.1 12)) = p.2.2.2.2.1 := by
    unfold fixN fixA fixR
    have k1 : p.1 = 1 ∨ (2 ≤ p.1 ∧ p.1 ≤ 4) ∨ (p.1 = 5 ∨ p.1 = 6) := by omega
    rcases k1 with k1 | k1 | k1
    · obtain ⟨h1, h2, h3⟩ := a1 k1
      rw [h2, h3, orL_nil, orL_nil, own_zero, own_zero, orL_some (card_size h1), decide_eq_true (show p.1 < 5 by omega), decide_eq_false (show ¬ p.1 ≥ 2 by omega), Bool.true_and, own_fix, ← eq_bs]
      exact ⟨rfl, rfl, rfl⟩
    · obtain ⟨h1, h2, h3⟩ := a3 k1
      rw [orL_some (card_size h1), orL_some (acq_size h2), orL_some (ref_size h3), decide_eq_true (show p.1 < 5 by omega), decide_eq_true (show p.1 ≥ 2 by omega)]
      simp only [Bool.true_and, own_fix]
      rw [← eq_bs, ← eq_bs, ← eq_bs]
      exact ⟨rfl, rfl, rfl⟩
    · obtain ⟨h1, h2, h3⟩ := a2 k1
      rw [h1, h3, orL_nil, orL_nil, own_zero, own_zero, orL_some (acq_size h2), decide_eq_false (show ¬ p.1 < 5 by omega), decide_eq_true (show p.1 ≥ 2 by omega), Bool.true_and, own_fix, ← eq_bs]
      exact ⟨rfl, rfl, rfl⟩
  rw [ex.1, ex.2.1, ex.2.2]
theorem back_is {p : Po} (h : mayP p = true) : trade_Parse.f (bs (txtP p)) = some (p, 0) := by
  rw [tradeParse_is (cut_txt h).len, raw_back h, h, decide_eq_true rfl]
  rfl
end Go.Proofs.YtopoklifappmcaaGreatDoor
end
section
set_option linter.unusedVariables false
set_option maxRecDepth 100000
namespace Go.Proofs.YtopoklifappmcaaGreatDoor
open Go Go.Fw
abbrev dispute_known.As : Shs := (.cons (.x .s) (.cons (.x .s) .nil))
abbrev dispute_known.m : Back := [(false, .b)]
noncomputable abbrev dispute_known.H : HK := hk P G0 E0 J0 [hold_Ref.row, chart_May.row] noLoops 4
theorem dispute_known.rows : TabOK P G0 (tabF [hold_Ref.row, chart_May.row]) := rows_ok (ws := [hold_Ref.row, chart_May.row]) ⟨hold_Ref.row_ok, ⟨chart_May.row_ok, trivial⟩⟩
theorem dispute_known.hok : HKOK P dispute_known.H := hk_ok e0_ok j0_ok dispute_known.rows (fun g n => noLoops_ok g n) 4
noncomputable def dispute_known.f (a : (ByteArray × ByteArray)) : Option Bool := (((hold_Ref.f a.1)).bind fun x2 => (bif x2 then (((chart_May.f ((2 : Int), a.2))).bind fun x3 => (some x3)) else (some false)))
theorem dispute_known.ok : ∀ a : Vals dispute_known.As.tys, fnK P dispute_known.H (lp []) 111 dispute_known.As dispute_known.m a some = dispute_known.f a := fun a => by kernel_rfl
noncomputable abbrev dispute_known.row : Row := fnRow 111 dispute_known.As dispute_known.m dispute_known.f
theorem dispute_known.row_ok : RowOK P G0 dispute_known.row := row_told dispute_known.hok (lp_of (l := []) trivial) (fun _ => rfl) dispute_known.ok
abbrev dispute_until.As : Shs := (.cons (.x (.i .i64)) (.cons (.x (.i .i64)) .nil))
abbrev dispute_until.m : Back := [(false, .b)]
noncomputable abbrev dispute_until.H : HK := hk P G0 E0 J0 [] noLoops 4
theorem dispute_until.rows : TabOK P G0 (tabF []) := rows_ok (ws := []) trivial
theorem dispute_until.hok : HKOK P dispute_until.H := hk_ok e0_ok j0_ok dispute_until.rows (fun g n => noLoops_ok g n) 4
noncomputable def dispute_until.f (a : (Int × Int)) : Option Bool := (bif (decide ((a.1 ≥ (0 : Int)))) then (some (decide ((a.1 ≤ a.2)))) else (some false))
theorem dispute_until.ok : ∀ a : Vals dispute_until.As.tys, fnK P dispute_until.H (lp []) 112 dispute_until.As dispute_until.m a some = dispute_until.f a := fun a => by kernel_rfl
noncomputable abbrev dispute_until.row : Row := fnRow 112 dispute_until.As dispute_until.m dispute_until.f
theorem dispute_until.row_ok : RowOK P G0 dispute_until.row := row_told dispute_until.hok (lp_of (l := []) trivial) (fun _ => rfl) dispute_until.ok
abbrev dispute_May.As : Shs := (.cons (.x T_api_Claim) .nil)
abbrev dispute_May.m : Back := [(false, .b)]
noncomputable abbrev dispute_May.H : HK := hk P G0 E0 J0 [chart_May.row, dispute_known.row, dispute_until.row] noLoops 4
theorem dispute_May.rows : TabOK P G0 (tabF [chart_May.row, dispute_known.row, dispute_until.row]) := rows_ok (ws := [chart_May.row, dispute_known.row, dispute_until.row]) ⟨chart_May.row_ok, ⟨dispute_known.row_ok, ⟨dispute_until.row_ok, trivial⟩⟩⟩
theorem dispute_May.hok : HKOK P dispute_May.H := hk_ok e0_ok j0_ok dispute_May.rows (fun g n => noLoops_ok g n) 4
noncomputable def dispute_May.f (a : (ByteArray × (ByteArray × (ByteArray × (Int × (Int × Int)))))) : Option Bool := (((dispute_known.f (a.1, a.2.1))).bind fun x1 => (bif (!x1) then (some false) else (((chart_May.f ((1 : Int), a.2.2.1))).bind fun x2 => (bif (!x2) then (some false) else (((dispute_until.f (a.2.2.2.2.2, (2147483647 : Int)))).bind fun x3 => (bif (!x3) then (some false) else (bif (decide ((a.2.2.2.1 ≥ (1 : Int)))) then (bif (decide ((a.2.2.2.1 ≤ (3 : Int)))) then (bif (decide ((a.2.2.2.2.1 ≥ (1 : Int)))) then (some (decide ((a.2.2.2.2.1 ≤ (9999999999999 : Int))))) else (some false)) else (some false)) else (some false))))))))
theorem dispute_May.ok : ∀ a : Vals dispute_May.As.tys, fnK P dispute_May.H (lp []) 61 dispute_May.As dispute_May.m a some = dispute_May.f a := fun a => by kernel_rfl
noncomputable abbrev dispute_May.row : Row := fnRow 61 dispute_May.As dispute_May.m dispute_May.f
theorem dispute_May.row_ok : RowOK P G0 dispute_May.row := row_told dispute_May.hok (lp_of (l := []) trivial) (fun _ => rfl) dispute_May.ok
abbrev dispute_Text.As : Shs := (.cons (.x T_api_Claim) .nil)
abbrev dispute_Text.m : Back := [(false, .s), (false, (.i .i64))]
noncomputable abbrev dispute_Text.H : HK := hk P G0 E0 J0 [dispute_May.row, digit_Put.row, strconv_Itoa.row] noLoops 4
theorem dispute_Text.rows : TabOK P G0 (tabF [dispute_May.row, digit_Put.row, strconv_Itoa.row]) := rows_ok (ws := [dispute_May.row, digit_Put.row, strconv_Itoa.row]) ⟨dispute_May.row_ok, ⟨digit_Put.row_ok, ⟨strconv_Itoa.row_ok, trivial⟩⟩⟩
theorem dispute_Text.hok : HKOK P dispute_Text.H := hk_ok e0_ok j0_ok dispute_Text.rows (fun g n => noLoops_ok g n) 4
noncomputable def dispute_Text.f (a : (ByteArray × (ByteArray × (ByteArray × (Int × (Int × Int)))))) : Option (ByteArray × Int) := (((dispute_May.f a)).bind fun x1 => (bif (!x1) then (some ((bs []), (1 : Int))) else (((digit_Put.f ((IntKind.wrap .u64 a.2.2.2.2.1), (14 : Int)))).bind fun x2 => (((digit_Put.f ((IntKind.wrap .u64 a.2.2.2.2.2), (10 : Int)))).bind fun x3 => (((strconv_Itoa.f a.2.2.2.1)).bind fun x4 => (bif (Nat.ble (x4.size + x2.1.size) 9223372036854775807) then (bif (Nat.ble ((x4 ++ x2.1).size + x3.1.size) 9223372036854775807) then (bif (Nat.ble (((x4 ++ x2.1) ++ x3.1).size + a.2.2.1.size) 9223372036854775807) then (some ((((x4 ++ x2.1) ++ x3.1) ++ a.2.2.1), (0 : Int))) else none) else none) else none))))))
theorem dispute_Text.ok : ∀ a : Vals dispute_Text.As.tys, fnK P dispute_Text.H (lp []) 43 dispute_Text.As dispute_Text.m a some = dispute_Text.f a := fun a => by kernel_rfl
noncomputable abbrev dispute_Text.row : Row := fnRow 43 dispute_Text.As dispute_Text.m dispute_Text.f
theorem dispute_Text.row_ok : RowOK P G0 dispute_Text.row := row_told dispute_Text.hok (lp_of (l := []) trivial) (fun _ => rfl) dispute_Text.ok
noncomputable def dispute_Parse.f (a : (ByteArray × (ByteArray × ByteArray))) : Option ((ByteArray × (ByteArray × (ByteArray × (Int × (Int × Int))))) × Int) := (bif ((a.2.2.size : Int) != (41 : Int)) then (some (((bs []), ((bs []), ((bs []), ((0 : Int), ((0 : Int), (0 : Int)))))), (4 : Int))) else (bif (true && (decide (((1 : Int) ≤ (a.2.2.size : Int))))) then (((digit_Get.f (ByteArray.extract a.2.2 0 1))).bind fun x3 => (bif (true && (decide (((15 : Int) ≤ (a.2.2.size : Int))))) then (((digit_Get.f (ByteArray.extract a.2.2 1 15))).bind fun x4 => (bif (true && (decide (((25 : Int) ≤ (a.2.2.size : Int))))) then (((digit_Get.f (ByteArray.extract a.2.2 15 25))).bind fun x5 => (bif (true && (decide (((25 : Int) ≤ (a.2.2.size : Int))))) then (((dispute_Text.f (a.1, (a.2.1, ((ByteArray.extract a.2.2 25 a.2.2.size), ((IntKind.wrap .i64 x3.1), ((IntKind.wrap .i64 x4.1), (IntKind.wrap .i64 x5.1)))))))).bind fun x6 => (bif (x6.2 != (0 : Int)) then (some (((bs []), ((bs []), ((bs []), ((0 : Int), ((0 : Int), (0 : Int)))))), (4 : Int))) else (bif (!((ByteArray.toList x6.1) == (ByteArray.toList a.2.2))) then (some (((bs []), ((bs []), ((bs []), ((0 : Int), ((0 : Int), (0 : Int)))))), (4 : Int))) else (some ((a.1, (a.2.1, ((ByteArray.extract a.2.2 25 a.2.2.size), ((IntKind.wrap .i64 x3.1), ((IntKind.wrap .i64 x4.1), (IntKind.wrap .i64 x5.1)))))), (0 : Int)))))) else none)) else none)) else none)) else none))
end Go.Proofs.YtopoklifappmcaaGreatDoor
end
section
set_option linter.unusedVariables false
set_option linter.unusedSimpArgs false
namespace Go.Proofs.YtopoklifappmcaaGreatDoor
open Go Go.Fw
abbrev Cl := ByteArray × ByteArray × ByteArray × Int × Int × Int
def zC : Cl := (bs [], bs [], bs [], 0, 0, 0)
def mayC (c : Cl) : Bool := refB c.1 && (acqB c.2.1 && (cardB c.2.2.1 && (decide (0 ≤ c.2.2.2.2.2) && (decide (c.2.2.2.2.2 ≤ 2147483647) && (decide (1 ≤ c.2.2.2.1) && (decide (c.2.2.2.1 ≤ 3) && (decide (1 ≤ c.2.2.2.2.1) && decide (c.2.2.2.2.1 ≤ 9999999999999))))))))
theorem disputeMay_is {c : Cl} (h : c.1.size ≤ 4611686018427387904) : dispute_May.f c = some (mayC c) := by
  unfold dispute_May.f dispute_known.f dispute_until.f mayC
  simp only [hold_Ref_is c.1 h, card_is, acq_is, Option.bind_some, ge_iff_le]
  cases refB c.1 <;> cases acqB c.2.1 <;> cases cardB c.2.2.1 <;> cases decide (0 ≤ c.2.2.2.2.2) <;> cases decide (c.2.2.2.2.2 ≤ 2147483647) <;> cases decide (1 ≤ c.2.2.2.1) <;> cases decide (c.2.2.2.1 ≤ 3) <;> cases decide (1 ≤ c.2.2.2.2.1) <;> rfl
theorem mayC_parts {c : Cl} (h : mayC c = true) : c.1.size = 12 ∧ c.2.1.size = 6 ∧ c.2.2.1.size = 16 ∧ (0 ≤ c.2.2.2.2.2 ∧ c.2.2.2.2.2 ≤ 2147483647) ∧ (1 ≤ c.2.2.2.1 ∧ c.2.2.2.1 ≤ 3) ∧ 1 ≤ c.2.2.2.2.1 ∧ c.2.2.2.2.1 ≤ 9999999999999 := by
  unfold mayC at h
  simp only [Bool.and_eq_true, decide_eq_true_eq] at h
  obtain ⟨h1, h2, h3, h4, h5, h6, h7, h8, h9⟩ := h
  exact ⟨ref_size h1, acq_size h2, card_size h3, ⟨h4, h5⟩, ⟨h6, h7⟩, h8, h9⟩
def txtC (c : Cl) : List UInt8 := [dgt c.2.2.2.1.toNat] ++ padD 14 c.2.2.2.2.1.toNat ++ padD 10 c.2.2.2.2.2.toNat ++ c.2.2.1.data.toList
theorem txtC_len {c : Cl} (h : mayC c = true) : (txtC c).length = 41 := by
  obtain ⟨_, _, h3, _⟩ := mayC_parts h
  unfold txtC
  simp only [List.length_append, size_len, h3, padD_len, List.length_cons, List.length_nil]
theorem wrapV {n : Int} (h0 : 0 ≤ n) (h1 : n ≤ 9999999999999) : IntKind.wrap .u64 n = ((n.toNat : Nat) : Int) := by
  rw [wrap_u64, Int.emod_eq_of_lt h0 (by omega)]; omega
theorem txtC_four {c : Cl} : ((bs [dgt c.2.2.2.1.toNat] ++ bs (padD 14 c.2.2.2.2.1.toNat)) ++ bs (padD 10 c.2.2.2.2.2.toNat)) ++ c.2.2.1 = bs (txtC c) := by
  unfold txtC
  conv => lhs; rw [bs_self c.2.2.1]
  rw [bs_append, bs_append, bs_append]
theorem disputeText_is {c : Cl} (h : c.1.size ≤ 4611686018427387904) : dispute_Text.f c = some (bif mayC c then (bs (txtC c), 0) else (bs [], 1)) := by
  unfold dispute_Text.f
  rw [disputeMay_is h, Option.bind_some]
  cases hm : mayC c
  · rfl
  · obtain ⟨_, _, h3, ⟨h4, h5⟩, ⟨h6, h7⟩, h8, h9⟩ := mayC_parts hm
    have p1 : digit_Put.f (((c.2.2.2.2.1.toNat : Nat) : Int), 14) = some (bs (padD 14 c.2.2.2.2.1.toNat), 0) := PutW_is (w := 14) (by omega) (by omega)
    have p2 : digit_Put.f (((c.2.2.2.2.2.toNat : Nat) : Int), 10) = some (bs (padD 10 c.2.2.2.2.2.toNat), 0) := PutW_is (w := 10) (by omega) (by omega)
    simp only [Bool.not_true, cond_false, wrapV (by omega) h9, wrapV h4 (by omega), p1, p2, Option.bind_some, itoa_kind (show c.2.2.2.1 = 1 ∨ c.2.2.2.1 = 2 ∨ c.2.2.2.1 = 3 ∨ c.2.2.2.1 = 4 ∨ c.2.2.2.1 = 5 ∨ c.2.2.2.1 = 6 by omega), ByteArray.size_append, bs_size, padD_len, h3, List.length_cons, List.length_nil, show Nat.ble (0 + 1 + 14) 9223372036854775807 = true from rfl, show Nat.ble (0 + 1 + 14 + 10) 9223372036854775807 = true from rfl, show Nat.ble (0 + 1 + 14 + 10 + 16) 9223372036854775807 = true from rfl, cond_true, txtC_four]
theorem dgt_pad3 {k : Int} (hk : 1 ≤ k ∧ k ≤ 3) : padD 1 k.toNat = [dgt k.toNat] := dgt_pad (by omega)
theorem txtC_cut {c : Cl} (h : mayC c = true) : (txtC c).take 1 = padD 1 c.2.2.2.1.toNat ∧ ((txtC c).take 15).drop 1 = padD 14 c.2.2.2.2.1.toNat ∧ ((txtC c).take 25).drop 15 = padD 10 c.2.2.2.2.2.toNat ∧ (txtC c).drop 25 = c.2.2.1.data.toList := by
  obtain ⟨_, _, h3, _, hk, _⟩ := mayC_parts h
  have l0 : (padD 1 c.2.2.2.1.toNat).length = 1 := padD_len 1 _
  have l1 : (padD 14 c.2.2.2.2.1.toNat).length = 14 := padD_len 14 _
  have l2 : (padD 10 c.2.2.2.2.2.toNat).length = 10 := padD_len 10 _
  have e : txtC c = padD 1 c.2.2.2.1.toNat ++ padD 14 c.2.2.2.2.1.toNat ++ padD 10 c.2.2.2.2.2.toNat ++ c.2.2.1.data.toList := by rw [dgt_pad3 hk]; rfl
  rw [e]
  refine ⟨?_, ?_, ?_, ?_⟩
  · rw [List.append_assoc, List.append_assoc, List.take_append_of_le_length (by omega), List.take_of_length_le (by omega)]
  · rw [List.append_assoc, List.take_append_of_le_length (by simp [l0, l1]), List.take_of_length_le (by simp [l0, l1]), List.drop_append_of_le_length (by omega), List.drop_eq_nil_of_le (by omega), List.nil_append]
  · rw [List.take_append_of_le_length (by simp [l0, l1, l2]), List.take_of_length_le (by simp [l0, l1, l2]), List.drop_append_of_le_length (by simp [l0, l1]), List.drop_eq_nil_of_le (by simp [l0, l1]), List.nil_append]
  · rw [List.drop_append_of_le_length (by simp [l0, l1, l2]), List.drop_eq_nil_of_le (by simp [l0, l1, l2]), List.nil_append]
theorem getW {w n : Nat} (hw : 1 ≤ w ∧ w ≤ 19) (h : n < 10 ^ w) : digit_Get.f (bs (padD w n)) = some ((n : Int), 0) := by
  rw [GetD_is (by rw [padD_len]; omega) (padD_digL w n), numL_padD w n h]
theorem wrapN {n : Int} (h0 : 0 ≤ n) (h1 : n ≤ 9999999999999) : IntKind.wrap .i64 ((n.toNat : Nat) : Int) = n := by
  rw [wrap_i64 (by omega) (by omega)]; omega
theorem disputeParse_of {c : Cl} (h : mayC c = true) : dispute_Parse.f (c.1, c.2.1, bs (txtC c)) = some (c, 0) := by
  obtain ⟨h1, _, h3, ⟨h4, h5⟩, ⟨h6, h7⟩, h8, h9⟩ := mayC_parts h
  obtain ⟨c1, c2, c3, c4⟩ := txtC_cut h
  have hl := txtC_len h
  have ht : (txtC c).take 41 = txtC c := List.take_of_length_le (by omega)
  unfold dispute_Parse.f
  simp only [bs_size, hl, bs_extract, ht, c1, c2, c3, c4, List.drop_zero, ← bs_self, show (((41 : Nat) : Int) != 41) = false from rfl, cond_false, show decide ((1 : Int) ≤ ((41 : Nat) : Int)) = true from rfl, show decide ((15 : Int) ≤ ((41 : Nat) : Int)) = true from rfl, show decide ((25 : Int) ≤ ((41 : Nat) : Int)) = true from rfl, Bool.and_self, cond_true, getW (w := 1) (n := c.2.2.2.1.toNat) (by omega) (by omega), getW (w := 14) (n := c.2.2.2.2.1.toNat) (by omega) (by omega), getW (w := 10) (n := c.2.2.2.2.2.toNat) (by omega) (by omega), Option.bind_some, wrapN (show 0 ≤ c.2.2.2.1 by omega) (by omega), wrapN (show 0 ≤ c.2.2.2.2.1 by omega) h9, wrapN h4 (by omega)]
  rw [show (c.1, c.2.1, c.2.2.1, c.2.2.2.1, c.2.2.2.2.1, c.2.2.2.2.2) = c from rfl, disputeText_is (by omega), h]
  simp only [cond_true, Option.bind_some, bne_self_eq_false, cond_false, beq_self_eq_true, Bool.not_true]
end Go.Proofs.YtopoklifappmcaaGreatDoor
end
