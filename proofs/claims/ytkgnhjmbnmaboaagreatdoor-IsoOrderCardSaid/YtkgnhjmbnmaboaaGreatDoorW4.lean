/- Part 4 of what the proofs of this seat stand on: how plain data stand for values, and an evaluator on them that is proved sound. -/
import Derived.ChangeSame
import Derived.ChangeArms
import Derived.ChangeSlices
import Derived.Below
import Derived.Deep.Slices
import Derived.Lib.LaidTab
import Derived.Lib.ItoaNum
import Derived.Sort.Grow
import Derived.LaidLaws
import Derived.MakeChecks
import Derived.Stop.LaidErr
import Derived.Test.YtkgnhjmbnmaboaaGreatDoorW3
section
/- Readings of arguments, as typed data: numbers, texts, structs and slices of them. By this session. -/
set_option linter.unusedVariables false
set_option linter.unusedSimpArgs false
namespace Go.Fw
variable {P : Program}

mutual
/-- is a type of the program this one of plain data? -/
def okTy (P : Program) : Nat → TypeId → Ty → Bool
  | 0, _, _ => false
  | n + 1, t, T => match P.underlying t, T with
    | some .bool, .b => P.cellsOf t == 1
    | some (.int k), .i k' => decide (k = k') && P.cellsOf t == 1
    | some .string, .s => P.cellsOf t == 1
    | some (.slice e), .l T => P.cellsOf t == 1 && (okTy P n e T && (P.cellsOf e == T.w && Nat.blt 0 T.w))
    | some (.struct fs), .g T => okFs P n (P.cellsOf t) fs.toList 0 T
    | _, _ => false
def okFs (P : Program) : Nat → Nat → List Field → Nat → Ty → Bool
  | _, total, [], off, .u => off == total
  | 0, _, _, _, _ => false
  | n + 1, total, f :: fs, off, T => match fs, T with
    | [], T => f.offset == off && (okTy P n f.type T && (P.cellsOf f.type == T.w && off + T.w == total))
    | f' :: fs', .p a c => f.offset == off && (okTy P n f.type a && (P.cellsOf f.type == a.w && okFs P n total (f' :: fs') (off + a.w) c))
    | _, _ => false
  | _, _, _, _, _ => false
end
/-- data as they may be read -/
def Ty.fit : (T : Ty) → T.den → Prop
  | .b, _ => True
  | .s, x => x.size ≤ maxLen
  | .u, _ => True
  | .e, _ => True
  | .i k, n => (Lit.int k n).wf = true
  | .p a c, x => a.fit x.1 ∧ c.fit x.2
  | .g t, x => t.fit x
  | .l t, xs => xs.length ≤ maxLen ∧ ∀ x ∈ xs, t.fit x

def RelCs (w : World) (I : Mem) (ds : List D) (cs : List Value) : Prop := ds.length = cs.length ∧ ∀ (j : Nat) (d : D) (v : Value), ds[j]? = some d → cs[j]? = some v → RelD w I d v ∧ v.oneCell' = true
section
variable {H : Type} {enc : TypeId × Value → H} {w : World} {base : Nat} {spare : Nat → Bool} {held : Bool} {I : Mem}
theorem RelCs.one {d : D} {v : Value} (h : RelD w I d v) (h1 : v.oneCell' = true) : RelCs w I [d] [v] := by
  refine ⟨rfl, fun j d' v' hd hv => ?_⟩
  cases j with
  | zero => simp at hd hv; subst hd; subst hv; exact ⟨h, h1⟩
  | succ j => simp at hd
theorem RelCs.app {ds es : List D} {cs vs : List Value} (h : RelCs w I ds cs) (k : RelCs w I es vs) : RelCs w I (ds ++ es) (cs ++ vs) := by
  refine ⟨by simp [h.1, k.1], fun j d v hd hv => ?_⟩
  by_cases hj : j < ds.length
  · rw [List.getElem?_append_left hj] at hd
    rw [List.getElem?_append_left (by rw [← h.1]; exact hj)] at hv
    exact h.2 j d v hd hv
  · rw [List.getElem?_append_right (by omega)] at hd
    rw [List.getElem?_append_right (by rw [← h.1]; omega), ← h.1] at hv
    exact k.2 _ d v hd hv
theorem Ty.cells_len : ∀ (T : Ty) (x : T.den), (T.cells x).length = T.w
  | .b, _ => rfl
  | .s, _ => rfl
  | .u, _ => rfl
  | .e, _ => rfl
  | .i _, _ => rfl
  | .p a c, x => by simp only [Ty.cells, Ty.w, List.length_append, Ty.cells_len a, Ty.cells_len c]
  | .g t, x => Ty.cells_len t x
  | .l _, _ => rfl
theorem Ty.elt_width : ∀ (T : Ty) (x : T.den), (T.elt x).width = T.w
  | .b, _ => rfl
  | .s, _ => rfl
  | .u, _ => rfl
  | .e, _ => rfl
  | .i _, _ => rfl
  | .p a c, x => by simp only [Ty.elt, D.width, D.cells, List.length_append, Ty.cells_len, Ty.w]
  | .g t, x => Ty.cells_len t x
  | .l _, _ => rfl
theorem Ty.elt_cells : ∀ (T : Ty) (x : T.den), (T.elt x).cells = T.cells x
  | .b, _ => rfl
  | .s, _ => rfl
  | .u, _ => rfl
  | .e, _ => rfl
  | .i _, _ => rfl
  | .p _ _, _ => rfl
  | .g _, _ => rfl
  | .l _, _ => rfl
/-- a list, element by element -/
theorem list_of {α : Type} {n : Nat} {p : Nat → α → Prop} (h : ∀ i, i < n → ∃ x, p i x) : ∃ l : List α, l.length = n ∧ ∀ (i : Nat) (x : α), l[i]? = some x → p i x := by
  induction n with
  | zero => exact ⟨[], rfl, by simp⟩
  | succ n ih =>
    obtain ⟨l, h1, h2⟩ := ih fun i hi => h i (by omega)
    obtain ⟨x, hx⟩ := h n (by omega)
    refine ⟨l ++ [x], by simp [h1], fun i y hy => ?_⟩
    by_cases hi : i < l.length
    · rw [List.getElem?_append_left hi] at hy; exact h2 i y hy
    · rw [List.getElem?_append_right (by omega)] at hy
      have : i = n := by
        have := (List.getElem?_eq_some_iff.1 hy).1
        simp at this; omega
      subst this
      simp [h1] at hy
      subst hy; exact hx

theorem cells_some {a : Addr} {n : Nat} {cs : List Value} (h : w.cells? base a n = some cs) : cs.length = n ∧ ∀ (i : Nat) (v : Value), cs[i]? = some v → w.cell? (a.add i) = some v := by
  unfold World.cells? at h
  split at h
  · have h1 := mapM_some_length h
    refine ⟨by simpa using h1, fun i v hv => ?_⟩
    have hi := (List.getElem?_eq_some_iff.1 hv).1
    have hi' : i < n := by simp at h1; omega
    have h2 := mapM_some_get h i i (by simp [hi'])
    rw [h2]; exact hv
  · cases h
theorem cell_some {a : Addr} {v : Value} (h : w.cell? a = some v) : a.spot = none ∧ ∃ cs e fz, w.heap[a.block]? = some (.cells cs e fz) ∧ cs[a.off]? = some v := by
  unfold World.cell? at h
  split at h
  · rename_i cs e fz hb
    split at h
    · cases h
    · rename_i hs
      exact ⟨by simpa using hs, cs, e, fz, hb, h⟩
  · cases h
theorem add_block (a : Addr) (i : Nat) : (a.add i).block = a.block := by unfold Addr.add; split <;> rfl
theorem add_off (a : Addr) (i : Nat) : (a.add i).off = a.off + i := by
  unfold Addr.add
  split
  · rename_i h; rw [h]; rfl
  · rfl
theorem slice_rel {a : Addr} {len cap c : Nat} {T : Ty} (hc : c = T.w) (hw : 0 < T.w) (hcap : len ≤ cap) {l : List T.den} (hl : l.length = len)
    (h : ∀ (i : Nat) (y : T.den), l[i]? = some y → ∃ cs', w.cells? base (a.add (i * c)) c = some cs' ∧ RelCs w (fun b => b < w.heap.size) (T.cells y) cs') : RelD w (fun b => b < w.heap.size) (.sl T.w (.t T l)) (.slice (some a) len cap) := by
  subst hc
  by_cases h0 : len = 0
  · subst h0
    have : l = [] := List.eq_nil_of_length_eq_zero hl
    subst this
    exact .sl0 _ _ _ _ rfl (fun h => by cases h)
  · -- a cell of each element
    have cell : ∀ (i k : Nat) (y : T.den) (d : D), l[i]? = some y → (T.cells y)[k]? = some d → ∃ v, w.cell? ((a.add (i * T.w)).add k) = some v ∧ RelD w (fun b => b < w.heap.size) d v ∧ v.oneCell' = true := by
      intro i k y d hi hk
      obtain ⟨cs', h1, h2⟩ := h i y hi
      obtain ⟨h3, h4⟩ := cells_some h1
      have hkl := (List.getElem?_eq_some_iff.1 hk).1
      have hkc : k < cs'.length := by rw [← h2.1]; exact hkl
      have hv : cs'[k]? = some cs'[k] := List.getElem?_eq_getElem hkc
      obtain ⟨h5, h6⟩ := h2.2 k d _ hk hv
      exact ⟨_, h4 k _ hv, h5, h6⟩
    have get : ∀ i, i < len → ∃ y, l[i]? = some y := fun i hi => ⟨l[i]'(by omega), List.getElem?_eq_getElem (by omega)⟩
    have getC : ∀ (y : T.den) (k : Nat), k < T.w → ∃ d, (T.cells y)[k]? = some d := fun y k hk => ⟨(T.cells y)[k]'(by rw [Ty.cells_len]; exact hk), List.getElem?_eq_getElem (by rw [Ty.cells_len]; exact hk)⟩
    obtain ⟨y0, hy0⟩ := get 0 (by omega)
    obtain ⟨d0, hd0⟩ := getC y0 0 hw
    obtain ⟨v0, hv0, _, _⟩ := cell 0 0 y0 d0 hy0 hd0
    have e0 : (a.add (0 * T.w)).add 0 = a := by simp [Addr.add]
    rw [e0] at hv0
    obtain ⟨hsp, cs, e, fz, hb, _⟩ := cell_some hv0
    have at' : ∀ (i k : Nat) (y : T.den) (d : D), l[i]? = some y → (T.cells y)[k]? = some d → ∃ v, cs[a.off + i * T.w + k]? = some v ∧ RelD w (fun b => b < w.heap.size) d v ∧ v.oneCell' = true := by
      intro i k y d hi hk
      obtain ⟨v, h1, h2, h3⟩ := cell i k y d hi hk
      obtain ⟨_, cs1, e1, fz1, g1, g2⟩ := cell_some h1
      rw [add_block, add_block, hb] at g1
      injection g1 with g1
      injection g1 with g1
      subst g1
      rw [add_off, add_off] at g2
      exact ⟨v, g2, h2, h3⟩
    have flat : ∀ j, j < len * T.w → ∃ v, cs[a.off + j]? = some v ∧ v.oneCell' = true := by
      intro j hj
      have hq : j / T.w < len := Nat.div_lt_of_lt_mul (by rw [Nat.mul_comm]; exact hj)
      have hr : j % T.w < T.w := Nat.mod_lt _ hw
      obtain ⟨y, hy⟩ := get _ hq
      obtain ⟨d, hd⟩ := getC y _ hr
      obtain ⟨v, h1, _, h3⟩ := at' _ _ y d hy hd
      have : a.off + j / T.w * T.w + j % T.w = a.off + j := by
        have := Nat.div_add_mod j T.w
        rw [Nat.mul_comm] at this; omega
      rw [this] at h1
      exact ⟨v, h1, h3⟩
    have hpos : 0 < len * T.w := Nat.mul_pos (by omega) hw
    have hsz : a.off + len * T.w ≤ cs.size := by
      obtain ⟨v, hv, _⟩ := flat (len * T.w - 1) (by omega)
      have := (Array.getElem?_eq_some_iff.1 hv).1
      omega
    have hx : (Ls.t T l).xs.length = len := by simp [Ls.xs, hl]
    have := RelD.sl (w := w) (I := fun b => b < w.heap.size) T.w (.t T l) a cap cs e fz hsp (Array.getElem?_eq_some_iff.1 hb).1 hb (by rw [hx]; exact hcap) (fun x hx => by
        simp only [Ls.xs, List.mem_map] at hx
        obtain ⟨y, _, rfl⟩ := hx
        exact T.elt_width y) (by rw [hx]; exact hsz) (fun j hj => by
        rw [hx] at hj
        obtain ⟨v, hv, h1⟩ := flat j hj
        rw [Array.getD_eq_getD_getElem?, hv]; exact h1) (fun j k x d hj hk => by
        simp only [Ls.xs, List.getElem?_map] at hj
        obtain ⟨y, hy, rfl⟩ := Option.map_eq_some_iff.1 hj
        rw [Ty.elt_cells] at hk
        obtain ⟨v, h1, h2, _⟩ := at' j k y d hy hk
        rw [Array.getD_eq_getD_getElem?, h1]; exact h2)
    rw [hx] at this
    exact this

theorem read_ty (hI : True) : ∀ (n k : Nat) (t : TypeId) (T : Ty) (cs : List Value) (x : DataW H × List MemPlace), DataW.trod enc P w base spare held n t cs = some x → okTy P k t T = true →
    ∃ y : T.den, T.fit y ∧ RelCs w (fun b => b < w.heap.size) (T.cells y) cs := by
  intro n
  induction n with
  | zero => intro k t T cs x h _; simp [DataW.trod] at h
  | succ n ih =>
    intro k t T cs x h hk
    cases k with
    | zero => simp [okTy] at hk
    | succ k =>
      simp only [okTy] at hk
      split at hk
      · rename_i hu
        obtain ⟨b, rfl, _⟩ := DataW.trod_bool hu h
        exact ⟨b, trivial, .one (.b b) rfl⟩
      · rename_i ki kj hu
        simp only [Bool.and_eq_true, decide_eq_true_eq] at hk
        obtain ⟨rfl, _⟩ := hk
        obtain ⟨m, rfl, _, hw⟩ := DataW.trod_int hu h
        exact ⟨m, hw, .one (.i ki m) rfl⟩
      · rename_i hu
        obtain ⟨s, rfl, _, hw⟩ := DataW.trod_string hu h
        exact ⟨s, hw, .one (.s s) rfl⟩
      · rename_i e T hu
        simp only [Bool.and_eq_true, beq_iff_eq] at hk
        obtain ⟨_, hke, hce, hw0⟩ := hk
        have hw0 : 0 < T.w := by simpa [Nat.blt_eq] using hw0
        rcases DataW.trod_slice hu h with ⟨rfl, _⟩ | ⟨a, len, cap, elems, rest, m, hm, rfl, _, hb, hl, hcm, hlen, hel, _, _⟩
        · exact ⟨([] : List T.den), ⟨Nat.zero_le _, by simp⟩, .one (.sl0 _ _ _ _ rfl (fun _ => rfl)) rfl⟩
        · have hmn : m = n := by omega
          subst hmn
          obtain ⟨l, hll, hp⟩ := list_of (n := len) (p := fun i (y : T.den) => T.fit y ∧ ∃ cs', w.cells? base (a.add (i * P.cellsOf e)) (P.cellsOf e) = some cs' ∧ RelCs w (fun b => b < w.heap.size) (T.cells y) cs') (fun i hi => by
            have h1 := hel i hi
            rw [List.getElem?_eq_getElem (by omega)] at h1
            obtain ⟨cs', h2, h3⟩ := Option.bind_eq_some_iff.1 h1
            obtain ⟨y, h4, h5⟩ := ih k e T cs' _ h3 hke
            exact ⟨y, h4, cs', h2, h5⟩)
          refine ⟨l, ⟨by omega, fun x hx => ?_⟩, .one (slice_rel hce hw0 hl hll fun i y hy => (hp i y hy).2) rfl⟩
          obtain ⟨i, hi⟩ := List.getElem?_of_mem hx
          exact (hp i x hi).1
      · rename_i fs T hu
        obtain ⟨xs, m, hm, _, hl, hlen, hf⟩ := DataW.trod_struct hu h
        have hmn : m = n := by omega
        subst hmn
        obtain ⟨y, h1, h2, _⟩ := fields cs ih fs.toList k 0 T (by rw [hl]; exact hk) (fun f hf' => by
          obtain ⟨i, hi⟩ := List.getElem?_of_mem hf'
          rw [Array.getElem?_toList] at hi
          have hlt : i < xs.length := by rw [hlen]; exact (Array.getElem?_eq_some_iff.1 hi).1
          exact ⟨xs[i], by rw [hf i f hi, List.getElem?_eq_getElem hlt]⟩)
        exact ⟨y, h1, by rw [List.drop_zero] at h2; exact h2⟩
      · cases hk
where
  fields {n : Nat} (cs : List Value) (ih : ∀ (k : Nat) (t : TypeId) (T : Ty) (cs : List Value) (x : DataW H × List MemPlace), DataW.trod enc P w base spare held n t cs = some x → okTy P k t T = true → ∃ y : T.den, T.fit y ∧ RelCs w (fun b => b < w.heap.size) (T.cells y) cs) :
      ∀ (fs : List Field) (k off : Nat) (T : Ty), okFs P k cs.length fs off T = true → (∀ f ∈ fs, ∃ x, DataW.trod enc P w base spare held n f.type ((cs.drop f.offset).take (P.cellsOf f.type)) = some x) →
      ∃ y : T.den, T.fit y ∧ RelCs w (fun b => b < w.heap.size) (T.cells y) (cs.drop off) ∧ off ≤ cs.length
    | [], k, off, T, hk, _ => by
      have h2 : T = .u ∧ off = cs.length := by
        cases k <;> cases T <;> simp [okFs] at hk <;> exact ⟨rfl, hk⟩
      obtain ⟨rfl, h2⟩ := h2
      subst h2
      exact ⟨(), trivial, ⟨by simp [Ty.cells], fun j d v hd => by simp [Ty.cells] at hd⟩, Nat.le_refl _⟩
    | [f], k, off, T, hk, hx => by
      cases k with
      | zero => simp [okFs] at hk
      | succ k =>
        simp only [okFs, Bool.and_eq_true, beq_iff_eq] at hk
        obtain ⟨ho, hkt, hc, ht⟩ := hk
        obtain ⟨x, hx0⟩ := hx f List.mem_cons_self
        obtain ⟨y, h1, h2⟩ := ih k f.type T _ x hx0 hkt
        refine ⟨y, h1, ?_, by omega⟩
        rw [ho, hc, List.take_of_length_le (by simp; omega)] at h2
        exact h2
    | f :: f' :: fs, k, off, T, hk, hx => by
      cases k with
      | zero => simp [okFs] at hk
      | succ k =>
        cases T <;> first | (simp [okFs] at hk; done) | skip
        rename_i a c
        simp only [okFs, Bool.and_eq_true, beq_iff_eq] at hk
        obtain ⟨ho, hkt, hc, hr⟩ := hk
        obtain ⟨x, hx0⟩ := hx f List.mem_cons_self
        obtain ⟨y, h1, h2⟩ := ih k f.type a _ x hx0 hkt
        obtain ⟨z, h3, h4, h5⟩ := fields cs ih (f' :: fs) k _ c hr (fun g hg => hx g (List.mem_cons_of_mem _ hg))
        refine ⟨(y, z), ⟨h1, h3⟩, ?_, by omega⟩
        rw [ho, hc] at h2
        have := h2.app h4
        rw [← List.drop_drop, List.take_append_drop] at this
        exact this
/-- cells that stand for a struct's are the struct's -/
theorem RelCs.agg {I : Mem} {ds : List D} {cs : Array Value} (h : RelCs w I ds cs.toList) : RelD w I (.ag ds) (.agg cs) := by
  refine .ag ds cs (by rw [h.1, Array.length_toList]) (fun j hj => ?_) (fun j d hd => ?_)
  · have hj' : j < cs.size := by rw [h.1, Array.length_toList] at hj; exact hj
    have := (h.2 j _ _ (List.getElem?_eq_getElem hj) (by rw [Array.getElem?_toList, Array.getElem?_eq_getElem hj'])).2
    simpa [Array.getD_eq_getD_getElem?, Array.getElem?_eq_getElem hj'] using this
  · have hj := (List.getElem?_eq_some_iff.1 hd).1
    have hj' : j < cs.size := by rw [h.1, Array.length_toList] at hj; exact hj
    have := (h.2 j d _ hd (by rw [Array.getElem?_toList, Array.getElem?_eq_getElem hj'])).1
    simpa [Array.getD_eq_getD_getElem?, Array.getElem?_eq_getElem hj'] using this
end
open Go.WideShapes in
/-- an argument, read -/
theorem read_arg {H : Type} {enc : TypeId × Value → H} {W : World} {base : Nat} {t : TypeId} {T : Ty} {v : Value} {d : DataW H} {p : List MemPlace} (hk : okTy P 40 t T = true) (hv : Value.okWide P W .any base t v) (h : DataW.Trod enc P W 0 (fun _ => true) true t v d p) :
    ∃ y : T.den, T.fit y ∧ RelD W (fun b => b < W.heap.size) (T.elt y) v := by
  obtain ⟨n, hn⟩ := h
  obtain ⟨y, h1, h2⟩ := read_ty trivial n 40 t T _ _ hn hk
  refine ⟨y, h1, ?_⟩
  have leaf : ∀ {d : D} {v : Value}, v.cells = #[v] → RelCs W (fun b => b < W.heap.size) [d] v.cells.toList → RelD W (fun b => b < W.heap.size) d v := by
    intro d v hc hr
    rw [hc] at hr
    exact (hr.2 0 d v rfl rfl).1
  simp only [okTy] at hk
  split at hk
  · rename_i hu
    obtain ⟨b, rfl⟩ := okWide_bool hu hv
    exact leaf rfl h2
  · rename_i hu
    obtain ⟨b, rfl⟩ := okWide_int hu hv
    exact leaf rfl h2
  · rename_i hu
    obtain ⟨b, rfl⟩ := okWide_string hu hv
    exact leaf rfl h2
  · rename_i hu
    obtain ⟨a, len, cap, rfl⟩ := okWide_slice hu hv
    exact leaf rfl h2
  · rename_i hu
    obtain ⟨cs, rfl, _⟩ := okWide_struct hu hv
    exact h2.agg
  · cases hk
/-- a call that is told, as it is asked for at the top -/
theorem top_call {G : Nat → Option (List D)} {g : FuncId} {ds : List D} {r : D} (h : PCall P G g ds r) {W : World} (hG : Glob ⟨W, fun b => b < W.heap.size, fun _ => False, fun _ => 0, fun _ => 0, G⟩) {vs : Array Value} (hsz : vs.size = ds.length)
    (hv : ∀ (j : Nat) (d : D), ds[j]? = some d → RelD W (fun b => b < W.heap.size) d (vs.getD j undef)) : Calls P g vs W fun e W' => (∃ v I', e = .returned v ∧ RelX W' I' (fun _ => False) r v) ∧ Go.RowKit.Below W.heap.size W W' := by
  refine (h W (fun b => b < W.heap.size) (fun _ => False) vs hG (fun _ h => h) (fun _ h => h.elim) (fun _ _ h => h) hsz hv).mono ?_
  rintro e w' ⟨v, I', he, h1, h2, h3, h4, h5, h6, h7, h8, h9⟩
  exact ⟨⟨v, I', he, h9⟩, h6, h7, h8, h1, fun k hk => (h2 k hk).2⟩
theorem glob_none {W : World} {I K : Mem} {bk ln : Nat → Nat} : Glob ⟨W, I, K, bk, ln, fun _ => none⟩ := fun g cs h => by cases h
end Go.Fw
end
section
/- Contracts of the library as rows; variables of the program that are told. By this session. -/
set_option linter.unusedVariables false
set_option linter.unusedSimpArgs false
namespace Go.Fw
open Go.RowKit
variable {P : Program}
/-- a call that leaves what was there as it was -/
theorem pcall_below {G : Nat → Option (List D)} {g : FuncId} {ds : List D} {r : D}
    (h : ∀ (w : World) (I K : Mem) (vs : Array Value), Glob ⟨w, I, K, fun _ => 0, fun _ => 0, G⟩ → vs.size = ds.length → (∀ (j : Nat) (d : D), ds[j]? = some d → RelD w I d (vs.getD j undef)) →
      Calls P g vs w fun e w' => ∃ v, e = .returned v ∧ Below w.heap.size w w' ∧ RelX w' I K r v) : PCall P G g ds r := by
  intro w I K vs hg hI hK hd hsz hargs
  refine (h w I K vs hg hsz hargs).mono ?_
  rintro e w' ⟨v, rfl, hb, hx⟩
  refine ⟨v, I, rfl, hb.size, fun b hb' => ⟨hb', hb.block b (hI b hb')⟩, fun b hb' => hb.block b (hK b hb'), fun b hb' => ⟨Nat.lt_of_lt_of_le (hI b hb') hb.size, hd b hb'⟩, fun b cs e fz hc => ⟨cs, ?_, rfl⟩, hb.os, hb.tape, hb.output, hx⟩
  rw [hb.block b (Array.getElem?_eq_some_iff.1 hc).1]
  exact hc
/-- more variables told -/
theorem PCall.more {G G' : Nat → Option (List D)} (hG : ∀ g cs, G g = some cs → G' g = some cs) {g : FuncId} {ds : List D} {r : D} (h : PCall P G g ds r) : PCall P G' g ds r := by
  intro w I K vs hg
  exact h w I K vs fun g cs hc => hg g cs (hG g cs hc)
theorem RowOK.more {G G' : Nat → Option (List D)} (hG : ∀ g cs, G g = some cs → G' g = some cs) {w : Row} (h : RowOK P G w) : RowOK P G' w :=
  fun ds a q ha hq => ⟨(h ds a q ha hq).1, (h ds a q ha hq).2.more hG⟩
theorem glob_cells {c : Cf} (hg : Glob c) {g : Nat} {cs : List D} (hG : c.G g = some cs) : ∃ vs e fz, c.w.heap[g]? = some (.cells vs e fz) ∧ vs.size = cs.length ∧ ∀ (j : Nat) (d : D), cs[j]? = some d → RelD c.w c.I d (vs.getD j undef) := by
  obtain ⟨vs, e, fz, h1, _, h3, _, h5⟩ := hg g cs hG
  exact ⟨vs, e, fz, h1, h3, h5⟩
/-- a table of numbers -/
theorem tab_of_glob {c : Cf} (hg : Glob c) {g : Nat} {name : String} {k : IntKind} {zs : List Int} (hn : P.globalNamed name = some g) (hG : c.G g = some (zs.map fun z => D.i k z)) : Lib.TabIs P c.w name k zs := by
  obtain ⟨vs, e, fz, h1, h2, h3⟩ := glob_cells hg hG
  unfold Lib.TabIs World.var?
  simp only [hn, Option.bind_some, h1, Option.some.injEq]
  refine Array.ext (by simpa using h2) fun i hi hi' => ?_
  have hl : i < zs.length := by simpa using hi'
  have := h3 i (.i k zs[i]) (by simp [hl])
  rw [Array.getD_eq_getD_getElem?, Array.getElem?_eq_getElem hi] at this
  simp only [Option.getD_some] at this
  generalize vs[i] = v at this
  cases this
  simp
/-- an error that is there -/
theorem err_of_glob {c : Cf} (hg : Glob c) {g : Nat} {name : String} (hn : P.globalNamed name = some g) (hG : c.G g = some [.er true]) : ∃ tp p, c.w.var? P name = some #[.iface tp p] := by
  obtain ⟨vs, e, fz, h1, h2, h3⟩ := glob_cells hg hG
  have := h3 0 (.er true) rfl
  have hs : vs.size = 1 := h2
  rw [Array.getD_eq_getD_getElem?, Array.getElem?_eq_getElem (by omega)] at this
  simp only [Option.getD_some] at this
  generalize hv : vs[0] = v at this
  cases this with
  | er1 t u =>
    refine ⟨t, u, ?_⟩
    unfold World.var?
    simp only [hn, Option.bind_some, h1, Option.some.injEq]
    refine Array.ext (by simpa using hs) fun i hi hi' => ?_
    have : i = 0 := by omega
    subst this
    exact hv

/-! ### from the condition of a row -/
def GlobAt (W : World) (g : Nat) (cs : List D) : Prop := ∃ vs e fz, W.heap[g]? = some (.cells vs e fz) ∧ vs.size = cs.length ∧ (∀ j : Nat, j < cs.length → (vs.getD j undef).oneCell' = true) ∧
  ∀ (j : Nat) (d : D), cs[j]? = some d → RelD W (fun b => b < W.heap.size) d (vs.getD j undef)
theorem var_cells {W : World} {name : String} {g : Nat} {vs : Array Value} (hn : P.globalNamed name = some g) (h : W.var? P name = some vs) : ∃ e fz, W.heap[g]? = some (.cells vs e fz) := by
  unfold World.var? at h
  simp only [hn, Option.bind_some] at h
  split at h
  · rename_i cs e fz hc
    injection h with h
    subst h
    exact ⟨e, fz, hc⟩
  · cases h
theorem globAt_tab {W : World} {g : Nat} {name : String} {k : IntKind} {zs : List Int} (hn : P.globalNamed name = some g) (h : Lib.TabIs P W name k zs) : GlobAt W g (zs.map fun z => D.i k z) := by
  obtain ⟨e, fz, hc⟩ := var_cells hn h
  refine ⟨_, e, fz, hc, by simp, fun j hj => ?_, fun j d hj => ?_⟩
  · have hj : j < zs.length := by simpa using hj
    simp [Array.getD_eq_getD_getElem?, hj, Value.oneCell']
  · simp only [List.getElem?_map] at hj
    obtain ⟨z, hz, rfl⟩ := Option.map_eq_some_iff.1 hj
    simp only [Array.getD_eq_getD_getElem?, List.getElem?_toArray, List.getElem?_map, hz, Option.map_some, Option.getD_some]
    exact .i k z
theorem globAt_err {W : World} {g : Nat} {name : String} (hn : P.globalNamed name = some g) (h : ∃ t p, W.var? P name = some #[.iface t p]) : GlobAt W g [.er true] := by
  obtain ⟨t, p, h⟩ := h
  obtain ⟨e, fz, hc⟩ := var_cells hn h
  refine ⟨_, e, fz, hc, rfl, fun j hj => ?_, fun j d hj => ?_⟩
  · have : j = 0 := by simp at hj; omega
    subst this; rfl
  · cases j with
    | zero => simp at hj; subst hj; exact .er1 t p
    | succ j => simp at hj
theorem glob_none' {W : World} {I K : Mem} {bk ln : Nat → Nat} : Glob ⟨W, I, K, bk, ln, fun _ => none⟩ := fun g cs h => by cases h
theorem glob_cons {W : World} {K : Mem} {bk ln : Nat → Nat} {n : Nat} {cs : List D} {G : Nat → Option (List D)} (h : GlobAt W n cs) (hg : Glob ⟨W, fun b => b < W.heap.size, K, bk, ln, G⟩) :
    Glob ⟨W, fun b => b < W.heap.size, K, bk, ln, fun g => bif g == n then some cs else G g⟩ := by
  intro g cs' hc
  have hc : (bif g == n then some cs else G g) = some cs' := hc
  cases hb : (g == n) with
  | false => rw [hb] at hc; exact hg g cs' hc
  | true =>
    rw [hb] at hc
    injection hc with hc
    subst hc
    have : g = n := by simpa using hb
    subst this
    obtain ⟨vs, e, fz, h1, h2, h3, h4⟩ := h
    exact ⟨vs, e, fz, h1, (Array.getElem?_eq_some_iff.1 h1).1, h2, h3, h4⟩
/-- an error that a row's condition tells of -/
theorem laid_err {n nm : String} {d : DataW Unit} {r : List (String × DataW Unit)} {W : World} {g : Nat} {ti : TypeId} {ms : Array (String × TypeId)}
    (h : laidMet P ((n, .iface nm d) :: r) W) (hg : P.globalNamed n = some g) (ht : (P.globals[g]?).map (·.type) = some ti) (hi : P.underlying ti = some (.interface ms)) : ∃ t p, W.var? P n = some #[.iface t p] := by
  obtain ⟨ps, ⟨g0, t0, cs0, f0, p0, q0, hg0, ht0, hv0, hd0, _, e0⟩, _, hrows⟩ := h
  obtain rfl := Option.some.inj (hg.symm.trans hg0)
  obtain rfl := Option.some.inj (ht.symm.trans ht0)
  obtain ⟨l0⟩ := cs0
  have : ∃ u v, l0 = [.iface u v] := by
    cases f0 with
    | zero => simp [DataW.trod] at hd0
    | succ f0 =>
      unfold DataW.trod at hd0
      simp only [hi] at hd0
      split at hd0 <;> first | exact ⟨_, _, rfl⟩ | (simp at hd0; done) | skip
      all_goals simp_all
  obtain ⟨u, v, rfl⟩ := this
  exact ⟨u, v, hv0⟩
/-! ### numbers as digits, by so many steps -/
def decF : Nat → Nat → List UInt8
  | 0, _ => []
  | n + 1, u => bif Nat.blt u 10 then [UInt8.ofNat (48 + u)] else decF n (u / 10) ++ [UInt8.ofNat (48 + u % 10)]
theorem decF_is : ∀ (n u : Nat), u < 10 ^ (n + 1) → decF (n + 1) u = Lib.decDigits u
  | 0, u, h => by
    have h' : u < 10 := by simpa using h
    have hb : Nat.blt u 10 = true := by rw [Nat.blt_eq]; exact h'
    unfold Lib.decDigits
    simp [decF, hb, h']
  | n + 1, u, h => by
    unfold decF Lib.decDigits
    by_cases h' : u < 10
    · have hb : Nat.blt u 10 = true := by rw [Nat.blt_eq]; exact h'
      simp [hb, h']
    · have hb : Nat.blt u 10 = false := by
        cases hb : Nat.blt u 10
        · rfl
        · rw [Nat.blt_eq] at hb; omega
      simp only [hb, cond_false, h', dite_false]
      rw [decF_is n (u / 10) (by have : 10 ^ (n + 1 + 1) = 10 ^ (n + 1) * 10 := Nat.pow_succ ..; omega)]
/-- FormatUint, at base 10 -/
def fmtU (a : Int × Int) : Option ByteArray := bif decide (0 ≤ a.1) && decide (a.1 < 18446744073709551616) && decide (a.2 = 10) then some ⟨(decF 20 a.1.toNat).toArray⟩ else none
end Go.Fw
end
