/- Octets and texts; then each operation but the calls. By this session. -/
import Derived.Test.YtloambokbipnjaaFl
set_option linter.unusedVariables false
set_option linter.unusedSimpArgs false
namespace Go.Fw
variable {P : Program}

theorem strOf_spec : ∀ (xs : List D) (l : List UInt8), strOf xs = some l → ∃ ns : List Int, xs = ns.map (D.i .u8) ∧ l = ns.map fun n => UInt8.ofNat n.toNat
  | [], l, h => by simp only [strOf, Option.some.injEq] at h; subst h; exact ⟨[], rfl, rfl⟩
  | x :: xs, l, h => by
    cases x with
    | i k n =>
      cases k with
      | u8 =>
        simp only [strOf] at h
        obtain ⟨l', hl, rfl⟩ := Option.map_eq_some_iff.1 h
        obtain ⟨ns, rfl, rfl⟩ := strOf_spec xs l' hl
        exact ⟨n :: ns, rfl, rfl⟩
      | _ => simp [strOf] at h
    | _ => simp [strOf] at h
theorem foldl_push : ∀ (ns : List Int) (s : ByteArray), ns.foldl (fun r n => r.push (UInt8.ofNat n.toNat)) s = ⟨(s.data.toList ++ ns.map fun n => UInt8.ofNat n.toNat).toArray⟩
  | [], s => by simp
  | n :: ns, s => by
    rw [List.foldl_cons, foldl_push ns]
    congr 2
    simp [ByteArray.push]

theorem bytesToStr_sound {c : Cf} {n : Nat} {hp : Heap} (hH : RelH c n hp) {src dst e : TypeId} (hs : P.underlying src = some (.slice e)) (he : P.underlying e = some (.int .u8)) (hd : P.underlying dst = some .string)
    {x : V} {v : Value} {w : Nat} {xs : List D} {l : List UInt8} (h : sliceOf hp x = some (w, xs)) (hw : w = 1 ∨ xs = []) (hl : strOf xs = some l) (hx : RelV c n x v) :
    (convert src dst v).run P c.w = .ok (.string ⟨l.toArray⟩) c.w := by
  obtain ⟨ns, rfl, rfl⟩ := strOf_spec xs l hl
  obtain ⟨ad, cap, rfl, h1, h2⟩ := sliceOf_sound hH h hx
  rw [run_convert_bytes_string c.w src dst e _ _ _ hs he hd]
  cases ad with
  | none =>
    have hn := (h1 rfl).1
    have hns : ns = [] := by simpa using hn
    subst hns
    simp [Conv.bytesToString]
    rfl
  | some a =>
    by_cases hne : ns = []
    · subst hne
      have := run_bytesToString (P := P) c.w a 0 cap [] (by simp [loadCells, loadCellsFrom])
      exact this
    · obtain ⟨hsp, cs, e', fz, hc, hb, hw', h1', hh⟩ := h2 a rfl (by simpa using hne)
      have hw1 : w = 1 := hw.resolve_right (by simpa using hne)
      subst hw1
      have hcells : ∀ j : Nat, j < ns.length → cs[a.off + j]? = some (.int .u8 (ns.getD j 0)) := by
        intro j hj
        have := hh j 0 (.i .u8 (ns.getD j 0)) (.i .u8 (ns.getD j 0)) (by simp [List.getD_eq_getElem?_getD, List.getElem?_eq_getElem hj]) rfl
        simp only [Nat.mul_one, Nat.add_zero] at this
        simp only [List.length_map, Nat.mul_one] at hb
        have hlt : a.off + j < cs.size := by omega
        rw [Array.getD_eq_getD_getElem?, Array.getElem?_eq_getElem hlt] at this
        rw [Array.getElem?_eq_getElem hlt]
        simp only [Option.getD_some] at this
        generalize cs[a.off + j] = v at this
        cases this
        rfl
      have hload := run_loadCells_list (P := P) c.w a (ns.map (Value.int .u8)) (fun j v hj => by
        rw [addr_add _ hsp, cell_of_row c.w a.block (a.off + j) cs e' fz hc]
        have hlt := (List.getElem?_eq_some_iff.1 hj).1
        simp only [List.length_map] at hlt
        rw [hcells j hlt]
        simp only [List.getElem?_map, List.getElem?_eq_getElem hlt, Option.map_some, Option.some.injEq] at hj
        rw [← hj, List.getD_eq_getElem?_getD, List.getElem?_eq_getElem hlt]; rfl)
      simp only [List.length_map] at hload ⊢
      rw [run_bytesToString (P := P) c.w a ns.length cap ns hload, foldl_push]
      rfl

theorem bytesWorld_eq (w : World) (e : TypeId) (s : ByteArray) : Lib.bytesWorld w e s = w.drew.alloc (.cells (Lib.bytesCells w e s) e ((Lib.bytesCells w e s).size, (Lib.bytesCells w e s).size + 1)) := by
  have hh : (Lib.bytesWorld w e s).heap = (w.drew.alloc (.cells (Lib.bytesCells w e s) e ((Lib.bytesCells w e s).size, (Lib.bytesCells w e s).size + 1))).heap := by
    apply Array.ext_getElem?
    intro j
    by_cases hj : j < w.heap.size
    · rw [Lib.bytesWorld_at_old w e s j hj, heap_alloc_old w.drew _ j hj]; rfl
    · by_cases hj' : j = w.heap.size
      · subst hj'
        rw [Lib.bytesWorld_at_new]
        exact (heap_alloc_new w.drew _).symm
      · rw [Array.getElem?_eq_none (by rw [Lib.bytesWorld_size]; omega), Array.getElem?_eq_none (by simp; omega)]
  have h2 : Lib.bytesWorld w e s = { w.drew with heap := (Lib.bytesWorld w e s).heap } := by
    unfold Lib.bytesWorld World.freeze
    simp [World.alloc, World.drew, -World.alloc_eq, -World.drew_eq]
  rw [h2, hh]
  rfl

theorem strToBytes_sound {c : Cf} {n : Nat} {hp : Heap} (hH : RelH c n hp) {src dst e : TypeId} (hs : P.underlying src = some .string) (hd : P.underlying dst = some (.slice e)) (he : P.underlying e = some (.int .u8)) (s : ByteArray) :
    ∃ val c', (convert src dst (.string s)).run P c.w = .ok val c'.w ∧ Outs c n (.ms n 1 0 s.size, n + 1, (n, .arr 1 (bytesD s)) :: hp) val c' := by
  have hrun := Lib.run_convert_string_bytes (P := P) c.w src dst e s hs hd he
  rw [bytesWorld_eq] at hrun
  have hflat : Flat c.drew.w c.drew.I 1 (bytesD s) (s.data.map fun b => Value.int .u8 b.toNat) := .bytes _ _ s
  have hlen : (bytesD s).length = s.size := by simp [bytesD]
  have hsz : (Lib.bytesCells c.w e s).size = grownCap c.w s.size 0 e := by
    have := grownCap_ge c.w s.size 0 e
    simp [Lib.bytesCells]; omega
  have hout := arr_new (n := n) (e := e) (relH_drew hH) (Nat.lt_succ_self 0) hflat (cap := grownCap c.w s.size 0 e) (rest := Array.replicate (grownCap c.w s.size 0 e - s.size) (.int .u8 0)) (by rw [hlen]; exact grownCap_ge ..)
    (by rw [Nat.mul_one]; exact hsz) ((Lib.bytesCells c.w e s).size, (Lib.bytesCells c.w e s).size + 1) (by intro o ho; have : o < (Lib.bytesCells c.w e s).size := ho; simp; omega)
  rw [hlen] at hout
  exact ⟨_, _, hrun, hout.after (ext_drew c n)⟩
/-! each operation -/
def callFree : Op → Bool
  | .call c => (match c.callee with
    | .builtin .len | .builtin .append => true
    | _ => false)
  | _ => true

theorem pure1_some {n : Nat} {hp : Heap} {v : Option V} {r : V × Nat × Heap} (h : pure1 n hp v = some r) : ∃ x, v = some x ∧ r = (x, n, hp) := by
  cases v with
  | none => cases h
  | some x => injection h with h; exact ⟨x, rfl, h.symm⟩

/-- an operation that hands back a value, or nothing -/
inductive Runs (P : Program) (o : Oper) (a : Act) (w : World) : Value → World → Prop
  | val (v : Value) (w' : World) (h : (execOp a.eval o).run P w = .ok (.value v) w') : Runs P o a w v w'
  | skip (w' : World) (h : (execOp a.eval o).run P w = .ok .skip w') : Runs P o a w undef w'

theorem Runs.wp {o : Oper} {a : Act} {w w' : World} {v : Value} {K : Act → World → Prop} {Q : Exit → Act → World → Prop} (h : Runs P o a w v w') (hk : K (a.put o.dst v) w') : o.wp P a w K Q := by
  unfold Oper.wp
  cases h with
  | val v w' h => rw [h]; exact hk
  | skip w' h => rw [h]; exact hk

theorem Outs.same {c : Cf} {n : Nat} {hp : Heap} {x : V} {v : Value} (hH : RelH c n hp) (h : RelV c n x v) : Outs c n (x, n, hp) v c := ⟨.refl c n, Nat.le_refl n, hH, h⟩

theorem list_rel {c : Cf} {n : Nat} {f : Slots} {a : Act} (hs : RelS c n f a.tmps) (xs : Array Operand) : RelL c n (xs.toList.map (opV c.G f)) (xs.map a.eval).toList := by
  refine ⟨by simp, fun j x hj => ?_⟩
  simp only [List.getElem?_map] at hj
  obtain ⟨y, hy, rfl⟩ := Option.map_eq_some_iff.1 hj
  refine ⟨a.eval y, ?_, opV_rel hs y⟩
  simp only [Array.toList_map, List.getElem?_map, hy, Option.map_some]
theorem parts_rel {c : Cf} {n : Nat} {f : Slots} {a : Act} (hs : RelS c n f a.tmps) (ps : Array (Nat × Operand)) :
    (ps.map fun (i, x) => (i, a.eval x)).size = (ps.toList.map fun (i, x) => (i, opV c.G f x)).length ∧
    ∀ (j i : Nat) (x : V), (ps.toList.map fun (i, x) => (i, opV c.G f x))[j]? = some (i, x) → ∃ v, (ps.map fun (i, x) => (i, a.eval x))[j]? = some (i, v) ∧ RelV c n x v := by
  refine ⟨by simp, fun j i x hj => ?_⟩
  simp only [List.getElem?_map] at hj
  obtain ⟨⟨k, y⟩, hy, he⟩ := Option.map_eq_some_iff.1 hj
  simp only [Prod.mk.injEq] at he
  obtain ⟨rfl, rfl⟩ := he
  refine ⟨a.eval y, ?_, opV_rel hs y⟩
  rw [Array.getElem?_toList] at hy
  simp [hy]

theorem caps_rel {c : Cf} {n : Nat} {g : FuncId} {xs : List V} {vs : Array Value} (h : RelL c n xs vs.toList) :
    RelV c n (match allD xs with | some ds => .d (.fn g ds) | none => .fn g xs) (.func (.func g) #[] vs) := by
  obtain ⟨hl, hr⟩ := h
  have hget : ∀ (j : Nat) (x : V), xs[j]? = some x → RelV c n x (vs.getD j undef) := by
    intro j x hj
    obtain ⟨v, hv, hrv⟩ := hr j x hj
    rw [Array.getElem?_toList] at hv
    rw [Array.getD_eq_getD_getElem?, hv]; exact hrv
  split
  · rename_i ds hd
    have hm := allD_spec _ _ hd
    subst hm
    exact .d _ _ (.fn g ds vs (by simpa using hl) fun j d hj => (hget j (.d d) (by simp [hj])).inv_d)
  · exact .fn g xs vs (by simpa using hl) hget

theorem binV_nil {c : Cf} {n : Nat} {op : BinOp} {t : TypeId} {x y r : V} {vx vy : Value} (h : binV P op t x y = some r) (hx : RelV c n x vx) (hy : RelV c n y vy) :
    (vx = .nilIface → x = .d .nI) ∧ (vy = .nilIface → y = .d .nI) := by
  have main : ∀ {x : V} {v : Value}, RelV c n x v → v = .nilIface → x ≠ .junk → x = .d .nI := by
    rintro x v hr rfl hj
    cases hr with
    | d x v hd => cases hd; rfl
    | junk => exact absurd rfl hj
  refine ⟨fun hv => main hx hv ?_, fun hv => main hy hv ?_⟩
  · rintro rfl
    unfold binV at h
    cases op <;> simp [eqV] at h
  · rintro rfl
    unfold binV at h
    cases x with
    | d x => cases x <;> cases op <;> simp [eqV] at h
    | _ => cases op <;> simp [eqV] at h

theorem evOp_sound {h : Hs} {o : Oper} {f : Slots} {n : Nat} {hp : Heap} {a : Act} {c : Cf} {r : V × Nat × Heap} (hcf : callFree o.op = true) (he : evOp P h o f n hp = some r) (hG : h.G = c.G) (hs : RelS c n f a.tmps) (hH : RelH c n hp) : ∃ v c', Runs P o a c.w v c'.w ∧ Outs c n r v c' := by
  have hop : ∀ x, RelV c n (opV c.G f x) (a.eval x) := opV_rel hs
  have pv : ∀ {x : V} {v : Value}, (execOp a.eval o).run P c.w = .ok (.value v) c.w → RelV c n x v → r = (x, n, hp) → ∃ v c', Runs P o a c.w v c'.w ∧ Outs c n r v c' := by
    rintro x v h1 h2 rfl
    exact ⟨v, c, .val v _ h1, .same hH h2⟩
  unfold evOp at he
  simp only [hG] at he
  split at he <;> rename_i ho
  · injection he with he
    exact pv (by simp [execOp, ho]) (hop _) he.symm
  · injection he with he
    exact pv (by simp [execOp, ho]) (hop _) he.symm
  · -- pick
    rename_i cc x y
    have hc := hop cc
    split at he
    · rename_i t ht
      rw [ht] at hc
      injection he with he
      generalize hv : a.eval cc = v at hc
      cases hc.inv_d
      refine pv (v := if t then a.eval x else a.eval y) (x := bif t then opV c.G f x else opV c.G f y) (by cases t <;> simp [execOp, ho, hv, asBool]) ?_ he.symm
      cases t
      · exact hop y
      · exact hop x
    · cases he
  · obtain ⟨x, hx, rfl⟩ := pure1_some he
    rename_i op t xo yo yt
    have key : binV P op t (opV c.G f xo) (opV c.G f yo) = some x ∧ (¬ (a.eval xo = .nilIface ∧ a.eval yo = .nilIface) ∨ (nilConst xo || nilConst yo) = true) := by
      by_cases hn : (nilConst xo || nilConst yo) = true
      · rw [hn] at hx
        exact ⟨hx, .inr hn⟩
      · rw [Bool.eq_false_iff.mpr hn] at hx
        simp only [cond_false] at hx
        split at hx
        · cases hx
        · rename_i hne
          refine ⟨hx, .inl fun ⟨h1, h2⟩ => ?_⟩
          obtain ⟨e1, e2⟩ := binV_nil hx (hop xo) (hop yo)
          exact hne (e1 h1) (e2 h2)
    obtain ⟨hx, hg⟩ := key
    obtain ⟨v, h1, h2, h3⟩ := binV_sound hx (hop xo) (hop yo) c.w
    refine pv (v := v) ?_ h2 rfl
    have hgd : (eqGuard op t xo yo (a.eval xo) (a.eval yo)).run P c.w = .ok () c.w := by
      by_cases hq : isEq op = true
      · exact guard_of hg (h3 hq)
      · cases op <;> first | rfl | (exfalso; exact hq rfl)
    simp [execOp, ho, hgd, h1]
  · obtain ⟨x, hx, rfl⟩ := pure1_some he
    obtain ⟨v, h1, h2⟩ := unV_sound (P := P) hx (hop _) c.w
    exact pv (by simp [execOp, ho, h1]) h2 rfl
  · rename_i src dst xo
    have hx := hop xo
    split at he
    · rename_i s hs'
      rw [hs'] at hx
      generalize hv : a.eval xo = vx at hx
      cases hx.inv_d
      by_cases hd : strT P dst = true
      · rw [hd] at he
        obtain ⟨x, hx', rfl⟩ := pure1_some he
        simp only [convV] at hx'
        obtain ⟨hb, hx'⟩ := cond_some hx'
        injection hx' with hx'
        subst hx'
        rw [Bool.and_eq_true] at hb
        have h1 := strT_und hb.1
        have h2 := strT_und hb.2
        exact pv (v := .string s) (by simp [execOp, ho, hv, convert, run_underlying h1, run_underlying h2]) (.d _ _ (.s _)) rfl
      · rw [Bool.eq_false_iff.mpr hd] at he
        simp only [cond_false] at he
        split at he
        · rename_i e hel
          obtain ⟨hb, he⟩ := cond_some he
          injection he with he
          subst he
          simp only [Bool.and_eq_true, decide_eq_true_eq] at hb
          obtain ⟨⟨⟨hb1, hb2⟩, hb3⟩, hb4⟩ := hb
          obtain ⟨val, c', h1, h2⟩ := strToBytes_sound hH (strT_und hb1) (elemT_und hel) (intT_und hb2) s
          exact ⟨val, c', .val _ _ (by simp [execOp, ho, hv, h1]), h2⟩
        · cases he
    · rename_i k m hs'
      rw [hs'] at hx
      generalize hv : a.eval xo = vx at hx
      cases hx.inv_d
      obtain ⟨x, hx', rfl⟩ := pure1_some he
      simp only [convV] at hx'
      obtain ⟨hb, hx'⟩ := cond_some hx'
      obtain ⟨k0, hk0⟩ := Option.isSome_iff_exists.1 hb
      obtain ⟨k', hk, rfl⟩ := Option.map_eq_some_iff.1 hx'
      have hd := intT_und hk
      have hd0 := intT_und hk0
      exact pv (v := .int k' (k'.wrap m)) (by simp [execOp, ho, hv, convert, run_underlying hd, run_underlying hd0, Conv.intToInt]) (.d _ _ (.i _ _)) rfl
    · split at he
      · rename_i e hel
        obtain ⟨hb, he⟩ := cond_some he
        rw [Bool.and_eq_true, decide_eq_true_eq] at hb
        split at he
        · rename_i w xs hsl
          obtain ⟨hw, he⟩ := cond_some he
          obtain ⟨x, hx', rfl⟩ := pure1_some he
          obtain ⟨l, hl, rfl⟩ := Option.map_eq_some_iff.1 hx'
          have hw' : w = 1 ∨ xs = [] := by simpa using hw
          have h1 := bytesToStr_sound hH (elemT_und hel) (intT_und hb.2) (strT_und hb.1) hsl hw' hl hx
          exact pv (by simp [execOp, ho, h1]) (.d _ _ (.s _)) rfl
        · cases he
      · cases he
  · obtain ⟨x, hx, rfl⟩ := pure1_some he
    obtain ⟨v, h1, h2⟩ := extractV_sound (P := P) hx (hop _) c.w
    exact pv (by simp [execOp, ho, h1]) h2 rfl
  · obtain ⟨x, hx, rfl⟩ := pure1_some he
    obtain ⟨v, h1, h2⟩ := fieldV_sound hx (hop _) c.w
    exact pv (by simp [execOp, ho, h1]) h2 rfl
  · obtain ⟨x, hx, rfl⟩ := pure1_some he
    obtain ⟨v, h1, h2⟩ := fieldAddrV_sound hx (hop _) c.w
    exact pv (by simp [execOp, ho, h1]) h2 rfl
  · obtain ⟨x, hx, rfl⟩ := pure1_some he
    obtain ⟨v, h1, h2⟩ := indexV_sound hx (hop _) (hop _) c.w
    exact pv (by simp [execOp, ho, h1]) h2 rfl
  · obtain ⟨x, hx, rfl⟩ := pure1_some he
    obtain ⟨v, h1, h2⟩ := indexAddrV_sound hx (hop _) (hop _) c.w
    exact pv (by simp [execOp, ho, h1]) h2 rfl
  · rename_i xo
    have hx := hop xo
    have go : ∀ v : Value, (match v with | .pointer none | .nilIface | .nilFunc | .func (.method _) _ _ => False | _ => True) → a.eval xo = v → r = (opV c.G f xo, n, hp) → ∃ v c', Runs P o a c.w v c'.w ∧ Outs c n r v c' := by
      intro v hv he hr
      refine pv (v := v) ?_ (he ▸ hx) hr
      unfold execOp
      rw [ho]
      simp only [he]
      split <;> simp_all
    split at he
    · rename_i hs'
      injection he with he
      rw [hs'] at hx go
      generalize hv : a.eval xo = vx at hx
      cases hx
      exact go _ trivial hv he.symm
    · rename_i hs'
      injection he with he
      rw [hs'] at hx go
      generalize hv : a.eval xo = vx at hx
      cases hx
      exact go _ trivial hv he.symm
    · rename_i hs'
      injection he with he
      rw [hs'] at hx go
      generalize hv : a.eval xo = vx at hx
      cases hx
      exact go _ trivial hv he.symm
    · rename_i hs'
      injection he with he
      rw [hs'] at hx go
      generalize hv : a.eval xo = vx at hx
      cases hx
      exact go _ trivial hv he.symm
    · rename_i hs'
      injection he with he
      rw [hs'] at hx go
      generalize hv : a.eval xo = vx at hx
      cases hx.inv_d
      exact go _ trivial hv he.symm
    · cases he
  · obtain ⟨x, hx, rfl⟩ := pure1_some he
    obtain ⟨hp1, hp2⟩ := parts_rel hs (by assumption)
    obtain ⟨v, h1, h2⟩ := buildV_sound hx hp1 hp2 c.w
    exact pv (by simp [execOp, ho, h1]) h2 rfl
  · rename_i g first captured
    obtain ⟨hb, h2⟩ := cond_some he
    injection h2 with h2
    have hf : first = #[] := by simpa [Array.isEmpty_iff] using hb
    subst hf
    exact pv (v := .func (.func g) #[] (captured.map a.eval)) (by simp [execOp, ho, Instr.makeFunc]) (caps_rel (list_rel hs captured)) h2.symm
  · split at he
    · rename_i z hz
      injection he with he
      subst he
      obtain ⟨i, zv, hi, hzv, hzd, hzr⟩ := zeroD_val hz
      obtain ⟨val, c', h1, h2⟩ := alloc_sound hH hz (ofValueD_tp hzd)
      exact ⟨val, c', .val _ _ (by simp [execOp, ho, h1]), h2⟩
    · cases he
  · obtain ⟨hb, he⟩ := cond_some he
    injection he with he
    subst he
    rename_i e xo
    obtain ⟨val, c', h1, h2⟩ := box_sound (P := P) hH e (hop xo) hb
    exact ⟨val, c', .val _ _ (by simp [execOp, ho, h1]), h2⟩
  · obtain ⟨x, hx, rfl⟩ := pure1_some he
    obtain ⟨v, h1, h2⟩ := loadV_sound hH hx (hop _)
    exact pv (by simp [execOp, ho, h1]) h2 rfl
  · split at he
    · rename_i hp' hst
      injection he with he
      subst he
      obtain ⟨c', h1, h2, h3⟩ := storeV_sound hH hst (hop _) (hop _)
      exact ⟨undef, c', .skip _ (by simp [execOp, ho, h1]), h2, Nat.le_refl n, h3, .junk _⟩
    · cases he
  · obtain ⟨x, hx, rfl⟩ := pure1_some he
    obtain ⟨v, h1, h2⟩ := sliceV_sound hx hs (hop _) c.w
    exact pv (by simp [execOp, ho, h1]) h2 rfl
  · obtain ⟨hp1, hp2⟩ := parts_rel hs (by assumption)
    obtain ⟨val, c', h1, h2⟩ := buildSliceV_sound hH he hp1 hp2
    exact ⟨val, c', .val _ _ (by simp [execOp, ho, h1]), h2⟩
  · obtain ⟨val, c', h1, h2⟩ := makeSliceV_sound hH he (hop _) (hop _)
    exact ⟨val, c', .val _ _ (by simp [execOp, ho, h1]), h2⟩
  · rename_i cl
    split at he <;> rename_i hcl
    · split at he
      · rename_i x t hxs hts
        obtain ⟨y, hy, rfl⟩ := pure1_some he
        obtain ⟨v, h1, h2⟩ := lenV_sound (ty := o.type) hy (hop _) c.w
        have ha : cl.args = #[x] := by rw [← Array.toList_inj, hxs]
        have hat : cl.argTypes = #[t] := by rw [← Array.toList_inj, hts]
        exact pv (by simp [execOp, ho, resolve, hcl, ha, hat, invoke, builtin, h1]) h2 rfl
      · cases he
    · split at he
      · rename_i s x t u hxs hts
        obtain ⟨val, c', h1, h2⟩ := appendV_sound (ty := o.type) hH he (hop _) (hop _)
        have ha : cl.args = #[s, x] := by rw [← Array.toList_inj, hxs]
        have hat : cl.argTypes = #[t, u] := by rw [← Array.toList_inj, hts]
        exact ⟨val, c', .val _ _ (by simp [execOp, ho, resolve, hcl, ha, hat, invoke, builtin, h1]), h2⟩
      · cases he
    · rw [ho] at hcf
      simp [callFree, hcl] at hcf
    · cases he
  · cases he
end Go.Fw
