/- Slices that grow. By this session. -/
import Derived.Test.YtloambokbipnjaaFj
set_option linter.unusedVariables false
set_option linter.unusedSimpArgs false
namespace Go.Fw
variable {P : Program}

/-- what is appended: its cells, read in any memory that is as this one -/
structure Src (P : Program) (c : Cf) (wd : Nat) (x : Value) (ys : List D) (news : Array Value) : Prop where
  len : ∀ w : World, (Builtin.lenOf x).run P w = .ok ys.length w
  read : ∀ w : World, w.heap = c.w.heap → (Builtin.firstCells wd ys.length x).run P w = .ok news w
  flat : Flat c.w c.I wd ys news

theorem cell_same {w w' : World} (h : w'.heap = w.heap) (a : Addr) : w'.cell? a = w.cell? a := by unfold World.cell?; rw [h]

theorem run_first_row {w : World} {a : Addr} (ha : a.spot = none) {cs : Array Value} {e : TypeId} {fz : Nat × Nat} (hc : w.heap[a.block]? = some (.cells cs e fz)) (wd len cap : Nat) (hb : a.off + len * wd ≤ cs.size) :
    (Builtin.firstCells wd len (.slice (some a) len cap)).run P w = .ok (cs.extract a.off (a.off + len * wd)) w := by
  have hl : ((cs.extract a.off (a.off + len * wd)).toList).length = len * wd := by simp; omega
  have := run_firstCells_some (P := P) w wd len a len cap (cs.extract a.off (a.off + len * wd)).toList hl (fun j v hj => by
    rw [addr_add _ ha, cell_of_row w a.block (a.off + j) cs e fz hc]
    rw [Array.getElem?_toList, Array.getElem?_extract] at hj
    split at hj
    · exact hj
    · cases hj)
  rw [Array.toArray_toList] at this
  exact this

theorem src_slice {c : Cf} {n : Nat} {hp : Heap} (hH : RelH c n hp) {x : V} {v : Value} {w : Nat} {ys : List D} (h : sliceOf hp x = some (w, ys)) (hx : RelV c n x v) (hne : ys ≠ []) : ∃ news, Src P c w v ys news := by
  obtain ⟨ad, cap, rfl, h1, h2⟩ := sliceOf_sound hH h hx
  cases ad with
  | none => exact absurd (h1 rfl).1 hne
  | some a =>
    obtain ⟨hs, cs, e, fz, hc, hb, hw, h1', hh⟩ := h2 a rfl hne
    refine ⟨cs.extract a.off (a.off + ys.length * w), ⟨fun w' => by simp [Builtin.lenOf], fun w' hw' => ?_, .of_row hb hw h1' hh⟩⟩
    exact run_first_row hs (by rw [hw']; exact hc) w ys.length cap hb
theorem src_string (c : Cf) (s : ByteArray) : Src P c 1 (.string s) (bytesD s) (s.data.map fun b => Value.int .u8 b.toNat) where
  len := fun w => by simp [Builtin.lenOf, bytesD]
  read := fun w _ => by
    have hx : (s.extract 0 (bytesD s).length).data = s.data := by
      have hl : (bytesD s).length = s.size := by simp [bytesD]
      rw [hl]
      simp
    simp only [Builtin.firstCells, Sem.run_pure, hx]
  flat := .bytes _ _ s

/-- a number of the tape was drawn -/
def Cf.drew (c : Cf) : Cf := { c with w := c.w.drew }
theorem ext_drew (c : Cf) (n : Nat) : Ext c n c.drew := ⟨Nat.le_refl _, fun _ h => ⟨h, rfl⟩, fun _ cs _ _ h => ⟨cs, h, rfl⟩, fun _ _ => rfl, rfl, rfl, fun _ _ => rfl, rfl, rfl, rfl⟩
theorem relH_drew {c : Cf} {n : Nat} {hp : Heap} (h : RelH c n hp) : RelH c.drew n hp := h.mono (ext_drew c n) (Nat.le_refl n) (fun _ _ => rfl) (fun id ho => h.own id ho) h.low h.disj

theorem Outs.after {c c1 c' : Cf} {n : Nat} {r : V × Nat × Heap} {val : Value} (hx : Ext c n c1) (h : Outs c1 n r val c') : Outs c n r val c' :=
  ⟨hx.trans h.ext (Nat.le_refl n), h.le, h.heap, h.rel⟩

theorem relH_dead {c : Cf} {n : Nat} {hp : Heap} (h : RelH c n hp) {id : Nat} (hid : id < n) : RelH c n ((id, .dead) :: hp) := h.push hid trivial (fun h => by cases h) (fun h => by cases h)

/-- growing into new memory -/
theorem grow_sound {c : Cf} {n : Nat} {hp : Heap} (hH : RelH c n hp) {t u ty e : TypeId} {i : TypeInfo} {z : Value} {du : TypeDesc} (ht : P.underlying t = some (.slice e)) (hu : P.underlying u = some du) (hdu : du = .string ∨ ∃ e', du = .slice e') (hi : P.info? e = some i) (hz : i.zero = some z)
    (hzs : z.cells.size = i.size) (hw0 : 0 < i.size) {b : Option Addr} {sCap : Nat} {xs ys : List D} {olds news : Array Value} {x : Value}
    (hold : ∀ w : World, w.heap = c.w.heap → (Builtin.firstCells i.size xs.length (.slice b xs.length sCap)).run P w = .ok olds w) (hfo : Flat c.w c.I i.size xs olds) (hs : Src P c i.size x ys news)
    (hg : sCap < xs.length + ys.length) (hb1 : (xs.length + ys.length) * i.bytes ≤ 140737488355328) (hb2 : xs.length + ys.length ≤ 140737488355328) :
    ∃ val c', (Builtin.append_ #[t, u] ty #[.slice b xs.length sCap, x]).run P c.w = .ok val c'.w ∧ Outs c n (.ms n i.size 0 (xs.length + ys.length), n + 1, (n, .arr i.size (xs ++ ys)) :: hp) val c' := by
  have hrun := run_append_grow' (P := P) c.w t u ty e i z du ht hu hdu hi hz b xs.length sCap ys.length x olds news hs.len (hs.read _ rfl) (hold _ rfl) hg (.inr (by omega)) (growslice_fits hg hb1)
  have hflat : Flat c.drew.w c.drew.I i.size (xs ++ ys) (olds ++ news) := Flat.mono (w := c.w) (I := c.I) (w' := c.drew.w) (I' := c.drew.I) (fun b hb => ⟨hb, rfl⟩) (hfo.append hs.flat)
  have hcapge : xs.length + ys.length ≤ grownCap c.w (xs.length + ys.length) sCap e := grownCap_ge ..
  have hsize : (olds ++ news ++ Builtin.zeroCells z.cells (grownCap c.w (xs.length + ys.length) sCap e - (xs.length + ys.length))).size = grownCap c.w (xs.length + ys.length) sCap e * i.size := by
    rw [Array.size_append, hflat.1, size_zeroCells, hzs, List.length_append, ← Nat.add_mul]
    congr 1
    omega
  have hout := arr_new (relH_drew hH) e hw0 hflat (by rw [List.length_append]; exact hcapge) hsize (0, 0) (by intro o _; simp)
  rw [List.length_append] at hout
  exact ⟨_, _, hrun, hout.after (ext_drew c n)⟩

/-- growing in place -/
theorem room_sound {c : Cf} {n : Nat} {hp : Heap} (hH : RelH c n hp) {t u ty e : TypeId} {i : TypeInfo} {du : TypeDesc} (ht : P.underlying t = some (.slice e)) (hu : P.underlying u = some du) (hdu : du = .string ∨ ∃ e', du = .slice e') (hi : P.info? e = some i)
    (hw0 : 0 < i.size) {id cap : Nat} {a : Addr} {xs ys : List D} {news : Array Value} {x : Value} (hl : lk hp id = .arr i.size xs) (ha : a = ⟨c.bk id, 0, none⟩)
    (hfit : ∃ cs e fz, c.w.heap[c.bk id]? = some (.cells cs e fz) ∧ cap * i.size ≤ cs.size) (hs : Src P c i.size x ys news) (hr : xs.length + ys.length ≤ cap) :
    ∃ val c', (Builtin.append_ #[t, u] ty #[.slice (some a) xs.length cap, x]).run P c.w = .ok val c'.w ∧ Outs c n (.ms n i.size 0 (xs.length + ys.length), n + 1, (n, .arr i.size (xs ++ ys)) :: (id, .dead) :: hp) val c' := by
  subst ha
  have ho : (lk hp id).own = true := by rw [hl]; rfl
  have hid : id < n := hH.lt id (by rw [hl]; simp)
  obtain ⟨cur, e', fz, h1, h2, h3, h4, h5, h6, h7⟩ := hH.arr id i.size xs hl
  obtain ⟨cs, e'', fz', g1, g2⟩ := hfit
  rw [h1] at g1
  injection g1 with g1
  injection g1 with g1
  subst g1
  have hmul : (xs.length + ys.length) * i.size ≤ cap * i.size := Nat.mul_le_mul_right _ hr
  rw [Nat.add_mul] at hmul
  have hns : news.size = ys.length * i.size := hs.flat.1
  have hst := run_storeCells_row (P := P) (c.bk id) (xs.length * i.size) e' fz news.toList 0 cur c.w h1 h2 (by simp [hns]; omega) (fun v hv => by
    obtain ⟨j, hj⟩ := List.mem_iff_getElem?.1 hv
    rw [Array.getElem?_toList] at hj
    have := hs.flat.2.2.1 j (Array.getElem?_eq_some_iff.1 hj).1
    rw [Array.getD_eq_getD_getElem?, hj] at this
    exact this)
  have hst' : (storeCells ((⟨c.bk id, 0, none⟩ : Addr).add (xs.length * i.size)) news.toList).run P c.w = .ok () (c.w.setRow (c.bk id) (lay cur.toList (xs.length * i.size + 0) news.toList).toArray) := by
    rw [addr_add _ rfl]
    simpa using hst
  have hrun := run_append_room' (P := P) c.w t u ty e i du ht hu hdu hi ⟨c.bk id, 0, none⟩ xs.length cap ys.length x news hs.len (hs.read _ rfl) hr hst'
  have hls : (lay cur.toList (xs.length * i.size + 0) news.toList).toArray.size = cur.size := by
    simp only [List.size_toArray]
    rw [lay_length _ _ _ (by simp [hns]; omega)]; simp
  have hx1 : Ext c n (c.wrote (c.bk id) (lay cur.toList (xs.length * i.size + 0) news.toList).toArray) := ext_wrote h1 hls (hH.own id ho) (hH.ownK id ho)
  let c' : Cf := { w := (c.wrote (c.bk id) (lay cur.toList (xs.length * i.size + 0) news.toList).toArray).w, I := c.I, K := c.K, bk := fun k => if k = n then c.bk id else c.bk k, G := c.G }
  have hx : Ext c n c' := ⟨hx1.size, hx1.kept, hx1.shape, fun k hk => by simp only [c']; rw [if_neg (by omega)], rfl, rfl, hx1.keptK, hx1.os, hx1.tape, hx1.output⟩
  have hbn : c'.bk n = c.bk id := by simp [c']
  have hheap : c'.w.heap[c.bk id]? = some (.cells (lay cur.toList (xs.length * i.size + 0) news.toList).toArray e' fz) := setRow_heap c.w _ cur _ e' fz h1
  have hd := relH_dead hH hid
  have hm : RelH c' (n + 1) ((id, .dead) :: hp) := hd.mono hx (Nat.le_succ n) (fun id' ho' => by
      rw [lk_cons] at ho'
      split at ho'
      · cases ho'
      · rename_i hne
        exact setRow_other c.w _ _ _ (fun e => hne (hH.inj id id' ho ho' e.symm))) (fun id' ho' => hd.own id' ho') (fun b hb => by have := hH.low b hb; simpa [c', Cf.wrote] using this) hH.disj
  have hget : ∀ j : Nat, (lay cur.toList (xs.length * i.size + 0) news.toList).toArray.getD j undef = if xs.length * i.size ≤ j ∧ j < xs.length * i.size + ys.length * i.size then news.getD (j - xs.length * i.size) undef else cur.getD j undef := by
    intro j
    rw [Nat.add_zero, lay_getD _ _ _ (by omega), hns]
  refine ⟨_, c', hrun, hx, Nat.le_succ n, hm.push (Nat.lt_succ_self n) ⟨⟨_, e', fz, by rw [hbn]; exact hheap, ?_, ?_, hw0, ?_, ?_, ?_⟩, by rw [hbn]; exact hH.own id ho⟩ (fun _ id' hne ho' => ?_) (fun _ => by rw [hbn]; exact hH.ownK id ho), ?_⟩
  · intro o ho; rw [hls] at ho; exact h2 o ho
  · intro y hy
    rcases List.mem_append.1 hy with hy | hy
    · exact h3 y hy
    · exact hs.flat.2.1 y hy
  · rw [hls, List.length_append, Nat.add_mul]; omega
  · intro j hj
    rw [List.length_append, Nat.add_mul] at hj
    rw [hget]
    split
    · exact hs.flat.2.2.1 _ (by omega)
    · exact h6 j (by omega)
  · intro j k y d hj hd
    rw [hget]
    have hw : y.cells.length = i.size := by
      rcases List.mem_append.1 (List.mem_of_getElem? hj) with hy | hy
      · exact h3 y hy
      · exact hs.flat.2.1 y hy
    have hk : k < i.size := by
      have := (List.getElem?_eq_some_iff.1 hd).1
      omega
    by_cases hlt : j < xs.length
    · rw [List.getElem?_append_left hlt] at hj
      have := mul_lt_of_lt (wd := i.size) hlt
      rw [if_neg (by omega)]
      exact (h7 j k y d hj hd).mono hx.kept
    · rw [List.getElem?_append_right (by omega)] at hj
      have hlt' := (List.getElem?_eq_some_iff.1 hj).1
      have := mul_lt_of_lt (wd := i.size) hlt'
      have hle : xs.length * i.size ≤ j * i.size := Nat.mul_le_mul_right _ (by omega)
      rw [Nat.sub_mul] at this
      rw [if_pos (by omega)]
      have hh := hs.flat.2.2.2 (j - xs.length) k y d hj hd
      rw [Nat.sub_mul] at hh
      rw [show j * i.size + k - xs.length * i.size = j * i.size - xs.length * i.size + k from by omega]
      exact hh.mono hx.kept
  · rw [lk_cons] at ho'
    split at ho'
    · cases ho'
    · rename_i hne'
      have hlt := hH.lt id' (by intro e; rw [e] at ho'; cases ho')
      rw [hbn, hx.bk id' hlt]
      exact fun e => hne' (hH.inj id id' ho ho' e)
  · rw [← hbn]
    exact .ms n i.size 0 _ cap _ (Nat.lt_succ_self n) hr rfl rfl (.inl (by simp)) ⟨_, e', fz, by rw [hbn]; exact hheap, by rw [hls]; simpa using g2, by simp⟩
theorem zeroD_size {t : TypeId} {z : D} {i : TypeInfo} {zv : Value} (hzd : ofValueD zv = some z) (w : World) (I : Mem) (hz : ∀ vs, z ≠ .tp vs) : zv.cells.size = z.width := by
  have hrel := ofValueD_rel w I hzd
  have hok : okC (.d z) = true := by cases z <;> first | rfl | exact absurd rfl (hz _)
  have he : (V.d z).cells = z.cells.map .d := by cases z <;> rfl
  have := (cells_rel (c := ⟨w, I, fun _ => False, fun _ => 0, fun _ => none⟩) (n := 0) (.d _ _ hrel) hok).1
  rw [he] at this
  simpa [D.width] using this
theorem ofValueD_tp {v : Value} {z : D} (h : ofValueD v = some z) : ∀ vs, z ≠ .tp vs := by
  intro vs he
  subst he
  unfold ofValueD at h
  split at h
  · obtain ⟨_, _, h⟩ := Option.map_eq_some_iff.1 h; cases h
  · unfold ofLeaf at h; split at h <;> cases h

def isSl : V → Bool
  | .d .nsl | .d (.sl _ _) | .fl _ _ | .ms _ _ _ _ => true
  | _ => false
theorem slice_shape {c : Cf} {n : Nat} {s : V} {vs : Value} (h : RelV c n s vs) (hs : isSl s = true) : ∃ ad len cap, vs = .slice ad len cap ∧ len ≤ cap := by
  cases h with
  | d x v hd =>
    cases hd with
    | nsl => exact ⟨none, 0, 0, rfl, Nat.le_refl _⟩
    | sl wd xs a cap cs e fz h1 h2 h3 h4 => exact ⟨_, _, _, rfl, h4⟩
    | _ => cases hs
  | fl wd xs a hr => exact ⟨_, _, _, rfl, Nat.le_refl _⟩
  | ms id wd off len cap a hid hcap => exact ⟨_, _, _, rfl, hcap⟩
  | _ => cases hs

theorem appendV_sound {c : Cf} {n : Nat} {hp : Heap} (hH : RelH c n hp) {t u ty : TypeId} {s x : V} {vs vx : Value} {r : V × Nat × Heap} (h : appendV P t u s x n hp = some r) (hs : RelV c n s vs) (hx : RelV c n x vx) :
    ∃ val c', (Builtin.append_ #[t, u] ty #[vs, vx]).run P c.w = .ok val c'.w ∧ Outs c n r val c' := by
  unfold appendV at h
  split at h
  · rename_i e he
    have ht := elemT_und he
    split at h
    · rename_i z hz
      obtain ⟨i, zv, hi, hzv, hzd, hzr⟩ := zeroD_val hz
      obtain ⟨hc, h'⟩ := cond_some h
      clear h
      rw [Bool.and_eq_true] at hc
      obtain ⟨hzw, hw0⟩ := hc
      have hisz : i.size = sz P e := by simp [sz, Program.cellsOf, hi]
      have hzw : z.width = sz P e := by simpa using hzw
      have hw0 : 0 < i.size := by rw [hisz]; exact Nat.le_of_ble_eq_true hw0
      have hzs : zv.cells.size = i.size := by rw [zeroD_size (t := e) (i := i) hzd c.w c.I (ofValueD_tp hzd), hzw, hisz]
      have hbytes : P.bytesOf e = i.bytes := by simp [Program.bytesOf, hi]
      split at h'
      · rename_i w ys hsrc
        unfold elsV at hsrc
        have hdu : ∃ du, P.underlying u = some du ∧ (du = .string ∨ ∃ e', du = .slice e') := by
          split at hsrc
          · obtain ⟨hc, _⟩ := cond_some hsrc
            rw [Bool.and_eq_true] at hc
            exact ⟨_, strT_und hc.1, .inl rfl⟩
          · obtain ⟨hc, _⟩ := cond_some hsrc
            obtain ⟨e', he'⟩ := elemT_isSome hc
            exact ⟨_, he', .inr ⟨e', rfl⟩⟩
        obtain ⟨du, hu, hdu⟩ := hdu
        split at h'
        · -- nothing to append
          have hlen : ∃ m, m = 0 ∧ (∀ w : World, (Builtin.lenOf vx).run P w = .ok m w) ∧ ∀ w : World, (Builtin.firstCells i.size m vx).run P w = .ok #[] w := by
            split at hsrc
            · rename_i b
              obtain ⟨_, hc⟩ := cond_some hsrc
              injection hc with hc
              injection hc with _ hc
              cases hx.inv_d
              have hb : b.size = 0 := by
                have := congrArg List.length hc
                simpa [bytesD] using this
              refine ⟨0, rfl, fun w => by simp only [Builtin.lenOf, Sem.run_pure, hb], fun w => ?_⟩
              have : (b.extract 0 0).data = #[] := by simp
              simp only [Builtin.firstCells, Sem.run_pure, this, Array.map_empty]
            · obtain ⟨_, hc⟩ := cond_some hsrc
              obtain ⟨ad, cap, rfl, _, _⟩ := sliceOf_sound hH hc hx
              refine ⟨0, rfl, fun w => by simp [Builtin.lenOf], fun w => ?_⟩
              cases ad <;> simp [Builtin.firstCells, loadCells, loadCellsFrom]
          obtain ⟨m, rfl, hlen, hfirst⟩ := hlen
          have hsame : ∀ ad len cap, vs = .slice ad len cap → len ≤ cap → (Builtin.append_ #[t, u] ty #[vs, vx]).run P c.w = .ok vs c.w := by
            rintro ad len cap rfl hle
            cases ad with
            | none =>
              rcases hdu with rfl | ⟨e', rfl⟩ <;> simp [Builtin.append_, run_underlying ht, run_underlying hu, sizeOf, typeInfo, hi, hlen, hle, hfirst]
            | some a =>
              exact run_append_room' (P := P) c.w t u ty e i du ht hu hdu hi a len cap 0 vx #[] hlen (hfirst _) (by omega) (by simp [storeCells])
          have hout : Outs c n (s, n, hp) vs c := ⟨.refl c n, Nat.le_refl n, hH, hs⟩
          have fin : isSl s = true → (s, n, hp) = r → ∃ val c', (Builtin.append_ #[t, u] ty #[vs, vx]).run P c.w = .ok val c'.w ∧ Outs c n r val c' := by
            rintro hsh rfl
            obtain ⟨ad, len, cap, he, hle⟩ := slice_shape hs hsh
            exact ⟨vs, c, hsame ad len cap he hle, hout⟩
          split at h'
          · exact fin rfl (Option.some.inj h')
          · exact fin rfl (Option.some.inj h')
          · exact fin rfl (Option.some.inj h')
          · exact fin rfl (Option.some.inj h')
          · cases h'
        · rename_i y0 ys0
          obtain ⟨hcw, h2⟩ := cond_some h'
          clear h'
          have hcw : w = sz P e := by simpa using hcw
          have hwi : w = i.size := by rw [hcw, hisz]
          have hS : ∃ news, Src P c i.size vx (y0 :: ys0) news := by
            split at hsrc
            · rename_i b
              obtain ⟨hc, hc'⟩ := cond_some hsrc
              injection hc' with hc'
              injection hc' with h1 h2
              rw [Bool.and_eq_true] at hc
              have h1' : sz P e = 1 := by simpa using hc.2
              cases hx.inv_d
              rw [← h2, hisz, h1']
              exact ⟨_, src_string c b⟩
            · obtain ⟨_, hc'⟩ := cond_some hsrc
              rw [← hwi]
              exact src_slice hH hc' hx (by simp)
          obtain ⟨news, hS⟩ := hS
          have hpos : 0 < (y0 :: ys0).length := by simp
          split at h2
          · obtain ⟨hc, h3⟩ := cond_some h2
            injection h3 with h3
            subst h3
            rw [Bool.and_eq_true] at hc
            have hc1 := Nat.le_of_ble_eq_true hc.1
            have hc2 := Nat.le_of_ble_eq_true hc.2
            rw [hbytes] at hc1
            cases hs.inv_d
            have := grow_sound (P := P) (n := n) (ty := ty) (b := none) (sCap := 0) (xs := []) (olds := #[]) hH ht hu hdu hi hzv hzs hw0 (fun w _ => by simp [Builtin.firstCells]) (.nil _ _ _) hS (by simp) (by simpa using hc1) (by simpa using hc2)
            rw [hwi]
            simpa using this
          · rename_i w' xs
            obtain ⟨hc, h3⟩ := cond_some h2
            injection h3 with h3
            subst h3
            simp only [Bool.and_eq_true, beq_iff_eq] at hc
            obtain ⟨⟨rfl, hc1⟩, hc2⟩ := hc
            have hc1 := Nat.le_of_ble_eq_true hc1
            have hc2 := Nat.le_of_ble_eq_true hc2
            rw [hbytes] at hc1
            cases hs with
            | fl _ _ a hr =>
              cases hr with
              | sl _ _ _ _ cs e' fz hsp hI hcell hcap hw hb h1 hh =>
                have hfo := Flat.of_row hb hw h1 hh
                rw [hwi] at hfo ⊢
                exact grow_sound (P := P) (n := n) (ty := ty) (b := some a) hH ht hu hdu hi hzv hzs hw0 (fun w hw' => run_first_row hsp (by rw [hw']; exact hcell) i.size xs.length xs.length (by rw [← hwi]; exact hb)) hfo hS (by omega) hc1 hc2
          · rename_i id w' off len
            split at h2
            · rename_i w'' xs hl
              obtain ⟨hc, h3⟩ := cond_some h2
              injection h3 with h3
              subst h3
              simp only [Bool.and_eq_true, beq_iff_eq] at hc
              obtain ⟨⟨⟨⟨⟨rfl, rfl⟩, rfl⟩, rfl⟩, hc1⟩, hc2⟩ := hc
              have hc1 := Nat.le_of_ble_eq_true hc1
              have hc2 := Nat.le_of_ble_eq_true hc2
              rw [hbytes] at hc1
              subst hwi
              cases hs with
              | ms _ _ _ _ cap a hid hcap ha hb ho hfit =>
                by_cases hr : xs.length + (y0 :: ys0).length ≤ cap
                · have ho : a.off = 0 := by
                    have := ho.resolve_right (by omega)
                    simpa using this
                  have hae : a = ⟨c.bk id, 0, none⟩ := by cases a; simp_all
                  obtain ⟨cs, e', fz, g1, g2, g3⟩ := hfit
                  exact room_sound (P := P) (ty := ty) hH ht hu hdu hi hw0 hl hae ⟨cs, e', fz, g1, by simpa using g2⟩ hS hr
                · obtain ⟨vs', e', fz, a1, a2, a3, a4, a5, a6, a7⟩ := hH.arr id _ xs hl
                  have hfo : Flat c.w c.I i.size xs (vs'.extract 0 (0 + xs.length * i.size)) := Flat.of_row (o := 0) (by simpa using a5) a3 (fun j hj => by simpa using a6 j hj) (fun j k y d hj hd => by simpa using a7 j k y d hj hd)
                  have hold : ∀ w : World, w.heap = c.w.heap → (Builtin.firstCells i.size xs.length (.slice (some a) xs.length cap)).run P w = .ok (vs'.extract 0 (0 + xs.length * i.size)) w := by
                    intro w hw'
                    rcases ho with ho | ho
                    · have ho' : a.off = 0 := by simpa using ho
                      have := run_first_row (P := P) (w := w) (a := a) ha (by rw [hw', hb]; exact a1) i.size xs.length cap (by rw [ho']; simpa using a5)
                      rw [ho'] at this
                      exact this
                    · have hz : xs.length = 0 := by omega
                      simp [Builtin.firstCells, hz, loadCells, loadCellsFrom]
                  exact grow_sound (P := P) (n := n) (ty := ty) (b := some a) (relH_dead hH hid) ht hu hdu hi hzv hzs hw0 hold hfo hS (by omega) hc1 hc2
            · cases h2
          · cases h2
      · cases h'
    · cases h
  · cases h

end Go.Fw
