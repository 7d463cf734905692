/- Slices that are made, and that grow. By this session. -/
import Derived.Test.YtloambokbipnjaaFi
set_option linter.unusedVariables false
set_option linter.unusedSimpArgs false
namespace Go.Fw
variable {P : Program}

theorem run_append_room' (w : World) (t u ty e : TypeId) (i : TypeInfo) (du : TypeDesc) (ht : P.underlying t = some (.slice e)) (hu : P.underlying u = some du) (hdu : du = .string ∨ ∃ e', du = .slice e') (hi : P.info? e = some i)
    (b : Addr) (sLen sCap m : Nat) (x : Value) (news : Array Value) (hlen : ∀ w, (Builtin.lenOf x).run P w = .ok m w) (hnew : (Builtin.firstCells i.size m x).run P w = .ok news w)
    (hroom : sLen + m ≤ sCap) {w' : World} (hst : (storeCells (b.add (sLen * i.size)) news.toList).run P w = .ok () w') :
    (Builtin.append_ #[t, u] ty #[.slice (some b) sLen sCap, x]).run P w = .ok (.slice (some b) (sLen + m) sCap) w' := by
  rcases hdu with rfl | ⟨e', rfl⟩ <;> simp [Builtin.append_, run_underlying ht, run_underlying hu, sizeOf, typeInfo, hi, hlen, hroom, hnew, hst]

theorem run_append_grow' (w : World) (t u ty e : TypeId) (i : TypeInfo) (z : Value) (du : TypeDesc) (ht : P.underlying t = some (.slice e)) (hu : P.underlying u = some du) (hdu : du = .string ∨ ∃ e', du = .slice e') (hi : P.info? e = some i) (hz : i.zero = some z)
    (b : Option Addr) (sLen sCap m : Nat) (x : Value) (olds news : Array Value) (hlen : ∀ w, (Builtin.lenOf x).run P w = .ok m w) (hnew : (Builtin.firstCells i.size m x).run P w.drew = .ok news w.drew)
    (hold : (Builtin.firstCells i.size sLen (.slice b sLen sCap)).run P w.drew = .ok olds w.drew)
    (hg : sCap < sLen + m) (hb : i.bytes ≠ 0 ∨ sLen + m ≤ 9223372036854775807) (hfit : Builtin.nextslicecap (sLen + m) sCap * i.bytes ≤ 281474976710656) :
    (Builtin.append_ #[t, u] ty #[.slice b sLen sCap, x]).run P w =
      .ok (.slice (some ⟨w.heap.size, 0, none⟩) (sLen + m) (grownCap w (sLen + m) sCap e))
        (w.drew.alloc (.cells (olds ++ news ++ Builtin.zeroCells z.cells (grownCap w (sLen + m) sCap e - (sLen + m))) e)) := by
  have hn : ¬ (sLen + m ≤ sCap) := by omega
  have h48' : ¬ (281474976710656 < Builtin.nextslicecap (sLen + m) sCap * i.bytes) := by omega
  have h63 : ¬ (IntKind.i64.max < (sLen : Int) + (m : Int) ∧ i.bytes = 0) := by
    have : IntKind.i64.max = 9223372036854775807 := by decide
    rw [this]; omega
  rcases hdu with rfl | ⟨e', rfl⟩ <;> simp [Builtin.append_, run_underlying ht, run_underlying hu, sizeOf, typeInfo, zeroValue, hi, hz, hlen, hn, h63, h48', Question.forced, hnew, hold, newRow, grownCap] <;> (intro h1 h2; omega)

/-! a row of cells that stands for elements, one behind the other -/
def Flat (w : World) (I : Mem) (wd : Nat) (xs : List D) (us : Array Value) : Prop :=
  us.size = xs.length * wd ∧ (∀ x ∈ xs, x.width = wd) ∧ (∀ j : Nat, j < us.size → (us.getD j undef).oneCell' = true) ∧
    ∀ (j k : Nat) (x d : D), xs[j]? = some x → x.cells[k]? = some d → RelD w I d (us.getD (j * wd + k) undef)

theorem Flat.mono {w w' : World} {I I' : Mem} (hk : Kept w I w' I') {wd : Nat} {xs : List D} {us : Array Value} (h : Flat w I wd xs us) : Flat w' I' wd xs us :=
  ⟨h.1, h.2.1, h.2.2.1, fun j k x d hj hd => (h.2.2.2 j k x d hj hd).mono hk⟩

theorem Flat.append {w : World} {I : Mem} {wd : Nat} {xs ys : List D} {us vs : Array Value} (h : Flat w I wd xs us) (k : Flat w I wd ys vs) : Flat w I wd (xs ++ ys) (us ++ vs) := by
  refine ⟨?_, ?_, ?_, ?_⟩
  · rw [Array.size_append, h.1, k.1, List.length_append, Nat.add_mul]
  · intro x hx
    rcases List.mem_append.1 hx with hx | hx
    · exact h.2.1 x hx
    · exact k.2.1 x hx
  · intro j hj
    rw [Array.size_append] at hj
    rw [Array.getD_eq_getD_getElem?, Array.getElem?_append]
    split
    · rw [← Array.getD_eq_getD_getElem?]; exact h.2.2.1 j (by assumption)
    · rw [← Array.getD_eq_getD_getElem?]; exact k.2.2.1 _ (by omega)
  · intro j m x d hj hd
    by_cases hlt : j < xs.length
    · rw [List.getElem?_append_left hlt] at hj
      have hm : m < wd := by
        have := (List.getElem?_eq_some_iff.1 hd).1
        have h' : x.cells.length = wd := h.2.1 x (List.mem_of_getElem? hj)
        omega
      have := mul_lt_of_lt (wd := wd) hlt
      rw [Array.getD_eq_getD_getElem?, Array.getElem?_append, if_pos (by rw [h.1]; omega), ← Array.getD_eq_getD_getElem?]
      exact h.2.2.2 j m x d hj hd
    · rw [List.getElem?_append_right (by omega)] at hj
      have hle : xs.length * wd ≤ j * wd := Nat.mul_le_mul_right _ (by omega)
      rw [Array.getD_eq_getD_getElem?, Array.getElem?_append, if_neg (by rw [h.1]; omega), ← Array.getD_eq_getD_getElem?, h.1]
      have := k.2.2.2 (j - xs.length) m x d hj hd
      rw [Nat.sub_mul] at this
      rw [show j * wd + m - xs.length * wd = j * wd - xs.length * wd + m from by omega]
      exact this

theorem Flat.of_row {w : World} {I : Mem} {wd : Nat} {ys : List D} {cs : Array Value} {o : Nat} (hb : o + ys.length * wd ≤ cs.size) (hw : ∀ y ∈ ys, y.width = wd) (h1 : ∀ j : Nat, j < ys.length * wd → (cs.getD (o + j) undef).oneCell' = true)
    (h : ∀ (j k : Nat) (y d : D), ys[j]? = some y → y.cells[k]? = some d → RelD w I d (cs.getD (o + j * wd + k) undef)) : Flat w I wd ys (cs.extract o (o + ys.length * wd)) := by
  refine ⟨by simp; omega, hw, ?_, ?_⟩
  · intro j hj
    simp only [Array.size_extract] at hj
    rw [getD_extract _ _ _ _ (by omega) hb]
    exact h1 j (by omega)
  · intro j k y d hj hd
    have hlt := (List.getElem?_eq_some_iff.1 hj).1
    have hk : k < wd := by
      have := (List.getElem?_eq_some_iff.1 hd).1
      have h' : y.cells.length = wd := hw y (List.mem_of_getElem? hj)
      omega
    have := mul_lt_of_lt (wd := wd) hlt
    rw [getD_extract _ _ _ _ (by omega) hb, ← Nat.add_assoc]
    exact h j k y d hj hd

theorem Flat.nil (w : World) (I : Mem) (wd : Nat) : Flat w I wd [] #[] := ⟨by simp, by simp, by simp, by simp⟩

theorem Flat.bytes (w : World) (I : Mem) (s : ByteArray) : Flat w I 1 (bytesD s) (s.data.map fun b => Value.int .u8 b.toNat) := by
  have hget : ∀ j : Nat, j < s.data.size → (s.data.map fun b => Value.int .u8 (b.toNat : Int)).getD j undef = .int .u8 ((s.data.getD j 0).toNat : Int) := by
    intro j hj
    simp [Array.getD_eq_getD_getElem?, Array.getElem?_eq_getElem hj]
  refine ⟨by simp [bytesD], ?_, ?_, ?_⟩
  · intro x hx
    simp only [bytesD, List.mem_map] at hx
    obtain ⟨b, _, rfl⟩ := hx
    rfl
  · intro j hj
    rw [hget j (by simpa using hj)]; rfl
  · intro j k x d hj hd
    simp only [bytesD, List.getElem?_map] at hj
    obtain ⟨b, hb, rfl⟩ := Option.map_eq_some_iff.1 hj
    have hlt := (List.getElem?_eq_some_iff.1 hb).1
    simp only [Array.length_toList] at hlt
    cases k with
    | zero =>
      simp only [D.cells, List.getElem?_cons_zero, Option.some.injEq] at hd
      subst hd
      rw [Nat.mul_one, Nat.add_zero, hget j hlt]
      have : s.data.getD j 0 = b := by
        rw [Array.getElem?_toList] at hb
        rw [Array.getD_eq_getD_getElem?, hb]; rfl
      rw [this]
      exact .i _ _
    | succ k => simp [D.cells] at hd

theorem grownCap_mul_le (w : World) (need old : Nat) (e : TypeId) : need ≤ grownCap w need old e := grownCap_ge w need old e

/-- a new row that is one's own -/
theorem arr_new {c : Cf} {n : Nat} {hp : Heap} (h : RelH c n hp) (e : TypeId) {wd cap : Nat} (hw0 : 0 < wd) {xs : List D} {us rest : Array Value} (hf : Flat c.w c.I wd xs us) (hcap : xs.length ≤ cap) (hs : (us ++ rest).size = cap * wd) (fz : Nat × Nat) (hfz : NoFz (us ++ rest) fz) :
    Outs c n (.ms n wd 0 xs.length, n + 1, (n, .arr wd xs) :: hp) (.slice (some ⟨c.w.heap.size, 0, none⟩) xs.length cap) (c.new n (.cells (us ++ rest) e fz)) where
  ext := ext_new h _
  le := Nat.le_succ n
  heap := by
    have hx := ext_new h (.cells (us ++ rest) e fz)
    have hget : ∀ j : Nat, j < us.size → (us ++ rest).getD j undef = us.getD j undef := by
      intro j hj
      rw [Array.getD_eq_getD_getElem?, Array.getElem?_append, if_pos hj, ← Array.getD_eq_getD_getElem?]
    refine relH_new h _ ⟨⟨us ++ rest, e, fz, by rw [Cf.new_bk]; exact heap_alloc_new c.w _, hfz, hf.2.1, hw0, ?_, ?_, ?_⟩, by rw [Cf.new_bk]; intro hI; have := h.low _ hI; omega⟩
    · rw [hs]; exact Nat.mul_le_mul_right _ hcap
    · intro j hj
      rw [hget j (by rw [hf.1]; exact hj)]
      exact hf.2.2.1 j (by rw [hf.1]; exact hj)
    · intro j k x d hj hd
      have hlt := (List.getElem?_eq_some_iff.1 hj).1
      have hk : k < wd := by
        have := (List.getElem?_eq_some_iff.1 hd).1
        have h' : x.cells.length = wd := hf.2.1 x (List.mem_of_getElem? hj)
        omega
      have := mul_lt_of_lt (wd := wd) hlt
      rw [hget _ (by rw [hf.1]; omega)]
      exact (hf.2.2.2 j k x d hj hd).mono hx.kept
  rel := by
    rw [← Cf.new_bk c n (.cells (us ++ rest) e fz)]
    exact .ms n wd 0 xs.length cap _ (Nat.lt_succ_self n) hcap rfl rfl (.inl (by simp)) ⟨_, e, fz, by rw [Cf.new_bk]; exact heap_alloc_new c.w _, by rw [hs]; simp, by simp⟩

end Go.Fw
