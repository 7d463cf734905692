/- Slice expressions, conversions, lengths, parts of what is built. By this session. -/
import Derived.Test.YtloambokbipnjaaFe
set_option linter.unusedVariables false
set_option linter.unusedSimpArgs false
namespace Go.Fw
variable {P : Program}

theorem bnd_some {c : Cf} {n : Nat} {f : Slots} {a : Act} (hs : RelS c n f a.tmps) {x : Operand} {d most r : Nat} (h : bnd c.G f (some x) d most = some r) :
    ∃ k m, a.eval x = .int k m ∧ 0 ≤ m ∧ m ≤ most ∧ r = m.toNat ∧ r ≤ most := by
  simp only [bnd] at h
  split at h
  · rename_i k m hx
    have hr := opV_rel hs x
    rw [hx] at hr
    obtain ⟨hb, h⟩ := cond_some h
    injection h with h
    simp only [Bool.and_eq_true, decide_eq_true_eq] at hb
    refine ⟨k, m, ?_, hb.1, hb.2, h.symm, by omega⟩
    generalize a.eval x = v at hr
    cases hr.inv_d
    rfl
  · cases h

theorem run_bound {v : Value} {k : IntKind} {m : Int} (hv : v = .int k m) {y : Nat} (h0 : 0 ≤ m) (h1 : m ≤ y) (code : BoundsCode) (w : World) : (Instr.sliceBound v y code).run P w = .ok m.toNat w := by
  subst hv
  have : 0 ≤ m ∧ m ≤ (y : Int) := ⟨h0, h1⟩
  simp [Instr.sliceBound, asIntOf, this]

theorem bounds2 {c : Cf} {n : Nat} {f : Slots} {a : Act} (hs : RelS c n f a.tmps) {lo hi : Option Operand} {len l h cap : Nat} (s : Bool) (hh : bnd c.G f hi len len = some h) (hl : bnd c.G f lo 0 h = some l) (hc : len ≤ cap) (w : World) :
    (Instr.sliceBounds s len cap (lo.map a.eval) (hi.map a.eval) none).run P w = .ok (l, h, cap) w ∧ l ≤ h ∧ h ≤ len := by
  have hle : h ≤ len := by
    cases hi with
    | none => simp only [bnd, Option.some.injEq] at hh; omega
    | some x => obtain ⟨_, _, _, _, _, _, h1⟩ := bnd_some hs hh; exact h1
  have hll : l ≤ h := by
    cases lo with
    | none => simp only [bnd, Option.some.injEq] at hl; omega
    | some x => obtain ⟨_, _, _, _, _, _, h1⟩ := bnd_some hs hl; exact h1
  refine ⟨?_, hll, hle⟩
  unfold Instr.sliceBounds
  cases hi with
  | none =>
    simp only [bnd, Option.some.injEq] at hh
    subst hh
    cases lo with
    | none =>
      simp only [bnd, Option.some.injEq] at hl
      subst hl
      simp
    | some x =>
      obtain ⟨k, m, hv, h0, h1, rfl, h2⟩ := bnd_some hs hl
      simp [run_bound hv h0 h1]
  | some y =>
    obtain ⟨k, m, hv, h0, h1, rfl, h2⟩ := bnd_some hs hh
    have h1' : m ≤ (cap : Int) := by omega
    cases lo with
    | none =>
      simp only [bnd, Option.some.injEq] at hl
      subst hl
      simp [run_bound hv h0 h1']
    | some x =>
      obtain ⟨k', m', hv', h0', h1'', rfl, h2'⟩ := bnd_some hs hl
      simp [run_bound hv h0 h1', run_bound hv' h0' h1'']

theorem bounds3 {c : Cf} {n : Nat} {f : Slots} {a : Act} (hs : RelS c n f a.tmps) {lo : Option Operand} {y z : Operand} {len l h cap : Nat} (hh : bnd c.G f (some y) len len = some h) (hl : bnd c.G f lo 0 h = some l) (hm : bnd c.G f (some z) len len = some h) (hc : len ≤ cap) (w : World) :
    (Instr.sliceBounds true len cap (lo.map a.eval) (some (a.eval y)) (some (a.eval z))).run P w = .ok (l, h, h) w ∧ l ≤ h ∧ h ≤ len := by
  obtain ⟨k, m, hv, h0, h1, he, h2⟩ := bnd_some hs hh
  obtain ⟨k3, m3, hv3, h03, h13, he3, h23⟩ := bnd_some hs hm
  have h13' : m3 ≤ (cap : Int) := by omega
  have h1' : m ≤ ((m3.toNat : Nat) : Int) := by omega
  have hA : (Instr.sliceBound (a.eval z) cap .slice3Acap).run P w = .ok h w := by rw [run_bound hv3 h03 h13', ← he3]
  have hB : (Instr.sliceBound (a.eval y) h .slice3B).run P w = .ok h w := by rw [run_bound hv h0 (by omega), ← he]
  unfold Instr.sliceBounds
  cases lo with
  | none =>
    simp only [bnd, Option.some.injEq] at hl
    subst hl
    refine ⟨?_, by omega, by omega⟩
    simp [hA, hB]
  | some x =>
    obtain ⟨k', m', hv', h0', h1'', he', h2'⟩ := bnd_some hs hl
    have hC : (Instr.sliceBound (a.eval x) h .slice3C).run P w = .ok l w := by rw [run_bound hv' h0' h1'', ← he']
    refine ⟨?_, by omega, by omega⟩
    simp [hA, hB, hC]

theorem run_sliceAt_sl {t e : TypeId} (hu : P.underlying t = some (.slice e)) (x : Option Addr) (len cap : Nat) {lo hi mx : Option Value} {l h m : Nat} {w : World} (hb : (Instr.sliceBounds true len cap lo hi mx).run P w = .ok (l, h, m) w)
    (hi' : ∃ i, P.info? e = some i) : (Instr.sliceAt t (.slice x len cap) lo hi mx).run P w = .ok (.slice (if m = l then x else x.map (·.add (l * P.cellsOf e))) (h - l) (m - l)) w := by
  obtain ⟨i, hi'⟩ := hi'
  simp only [Instr.sliceAt, Instr.slice, Sem.run_bind, run_underlying hu, Result.andThen_ok, hb, sizeOf, typeInfo, run_program, hi', Sem.run_pure, Program.cellsOf, Option.map_some, Option.getD_some]

theorem run_sliceAt_str {t : TypeId} (hu : P.underlying t = some .string) (s : ByteArray) {lo hi : Option Value} {l h m : Nat} {w : World} (hb : (Instr.sliceBounds false s.size s.size lo hi none).run P w = .ok (l, h, m) w) :
    (Instr.sliceAt t (.string s) lo hi none).run P w = .ok (.string (s.extract l h)) w := by
  simp [Instr.sliceAt, Instr.slice, run_underlying hu, hb]

theorem sl_part {w : World} {I : Mem} {wd : Nat} {xs : List D} {a : Addr} {cap l h m : Nat} (hx : RelD w I (.sl wd xs) (.slice (some a) xs.length cap)) (h1 : l ≤ h) (h2 : h ≤ xs.length) (h3 : h ≤ m) (hm : m ≤ cap) :
    RelD w I (.sl wd ((xs.drop l).take (h - l))) (.slice ((if m = l then some a else (some a).map (·.add (l * wd)))) (h - l) (m - l)) := by
  cases hx with
  | sl _ _ _ _ cs e fz hs hI hc hcap hw hb h1' hh =>
    have hlen : ((xs.drop l).take (h - l)).length = h - l := by simp; omega
    have hmul : l * wd + (h - l) * wd ≤ xs.length * wd := by rw [← Nat.add_mul]; exact Nat.mul_le_mul_right _ (by omega)
    have hw' : ∀ x ∈ (xs.drop l).take (h - l), x.width = wd := fun x hx => hw x (List.mem_of_mem_drop (List.mem_of_mem_take hx))
    have hget : ∀ j x, ((xs.drop l).take (h - l))[j]? = some x → xs[l + j]? = some x := by
      intro j x hj
      rw [List.getElem?_take] at hj
      split at hj
      · rw [List.getElem?_drop] at hj; exact hj
      · cases hj
    by_cases hml : m = l
    · rw [if_pos hml]
      have hz : (xs.drop l).take (h - l) = [] := by
        rw [show h - l = 0 from by omega]; rfl
      rw [hz, show h - l = ([] : List D).length from by simp; omega]
      exact .sl wd [] a _ cs e fz hs hI hc (Nat.zero_le _) (by simp) (by simp; omega) (by simp) (by simp)
    · rw [if_neg hml]
      show RelD w I _ (.slice (some (a.add (l * wd))) (h - l) (m - l))
      rw [addr_add _ hs]
      have := RelD.sl (w := w) (I := I) wd ((xs.drop l).take (h - l)) ⟨a.block, a.off + l * wd, none⟩ (m - l) cs e fz rfl hI hc (by omega) hw' (by simp only [hlen]; omega)
        (fun j hj => by simp only [Nat.add_assoc]; exact h1' _ (by rw [hlen] at hj; omega))
        (fun j k x d hj hk => by
          have := hh (l + j) k x d (hget j x hj) hk
          rw [Nat.add_mul] at this
          simpa [Nat.add_assoc] using this)
      rw [hlen] at this
      exact this

theorem any_elem {t : TypeId} {wd : Nat} (h : ((elemT P t).any (fun e => sz P e == wd && Nat.blt 0 wd)) = true) : ∃ e, P.underlying t = some (.slice e) ∧ P.cellsOf e = wd ∧ 0 < wd ∧ ∃ i, P.info? e = some i := by
  cases he : elemT P t with
  | none => rw [he] at h; cases h
  | some e =>
    rw [he] at h
    simp only [Option.any_some, Bool.and_eq_true, beq_iff_eq] at h
    obtain ⟨h1, h2⟩ := h
    have h2 := Nat.le_of_ble_eq_true h2
    unfold sz at h1
    obtain ⟨i, hi, _⟩ := info_of_sz (P := P) (t := e) (by omega)
    exact ⟨e, elemT_und he, h1, h2, i, hi⟩
theorem any_elem0 {t : TypeId} (h : ((elemT P t).any (fun e => Nat.blt 0 (sz P e))) = true) : ∃ e, P.underlying t = some (.slice e) ∧ ∃ i, P.info? e = some i := by
  cases he : elemT P t with
  | none => rw [he] at h; cases h
  | some e =>
    rw [he] at h
    simp only [Option.any_some] at h
    have h2 := Nat.le_of_ble_eq_true h
    unfold sz at h2
    obtain ⟨i, hi, _⟩ := info_of_sz (P := P) (t := e) (by omega)
    exact ⟨e, elemT_und he, i, hi⟩

theorem sliceV_sound {c : Cf} {n : Nat} {t : TypeId} {f : Slots} {a : Act} {x r : V} {lo hi mx : Option Operand} {vx : Value} (h : sliceV P c.G t f x lo hi mx = some r) (hs : RelS c n f a.tmps) (hx : RelV c n x vx) (w : World) :
    ∃ v, (Instr.sliceAt t vx (lo.map a.eval) (hi.map a.eval) (mx.map a.eval)).run P w = .ok v w ∧ RelV c n r v := by
  unfold sliceV at h
  split at h
  · cases hx.inv_d
    obtain ⟨hu, h⟩ := cond_some h
    have hu := strT_und hu
    split at h
    · cases h
    · split at h
      · rename_i h' hh
        split at h
        · rename_i l hl
          injection h with h; subst h
          obtain ⟨hb, _, _⟩ := bounds2 (P := P) hs false hh hl (Nat.le_refl _) w
          exact ⟨_, run_sliceAt_str hu _ hb, .d _ _ (.s _)⟩
        · cases h
      · cases h
  · cases hx.inv_d
    obtain ⟨hu, h⟩ := cond_some h
    obtain ⟨e, hu, hi'⟩ := any_elem0 hu
    split at h
    · rename_i h' hh _
      split at h
      · rename_i l hl
        injection h with h; subst h
        have h0 : h' = 0 := by
          cases hi with
          | none => simp only [bnd, Option.some.injEq] at hh; omega
          | some x => obtain ⟨_, _, _, _, _, _, h1⟩ := bnd_some hs hh; omega
        subst h0
        obtain ⟨hb, h1, h2⟩ := bounds2 (P := P) hs true hh hl (Nat.le_refl _) w
        obtain rfl : l = 0 := by omega
        exact ⟨_, run_sliceAt_sl hu none 0 0 hb hi', .d _ _ .nsl⟩
      · cases h
    · cases h
  · rename_i wd xs
    obtain ⟨hu, h⟩ := cond_some h
    obtain ⟨e, hu, he, hw0, hi'⟩ := any_elem hu
    have hx := hx.inv_d
    have hx0 := hx
    cases hx with
    | sl _ _ ad cap cs e' fz hs' hI hc hcap hw hb h1' hh' =>
      split at h
      · rename_i h' hh
        split at h
        · rename_i l hl
          split at h
          · injection h with h; subst h
            obtain ⟨hb, h1, h2⟩ := bounds2 (P := P) hs true hh hl hcap w
            refine ⟨_, run_sliceAt_sl hu (some ad) _ cap hb hi', .d _ _ ?_⟩
            rw [he]
            exact sl_part hx0 h1 h2 (by omega) (Nat.le_refl _)
          · split at h
            · rename_i m hm
              obtain ⟨hmh, h⟩ := cond_some h
              injection h with h; subst h
              have hmh : m = h' := by simpa using hmh
              subst hmh
              obtain ⟨hb, h1, h2⟩ := bounds3 (P := P) hs hh hl hm hcap w
              refine ⟨_, run_sliceAt_sl hu (some ad) _ cap hb hi', ?_⟩
              rw [he]
              have hp := sl_part hx0 h1 h2 (Nat.le_refl _) (by omega)
              have hlen : ((xs.drop l).take (m - l)).length = m - l := by simp; omega
              by_cases hml : m = l
              · rw [if_pos hml] at hp ⊢
                have := RelV.fl (c := c) (n := n) wd ((xs.drop l).take (m - l)) ad (by rw [hlen]; exact hp)
                rw [hlen] at this
                exact this
              · rw [if_neg hml] at hp ⊢
                have := RelV.fl (c := c) (n := n) wd ((xs.drop l).take (m - l)) (ad.add (l * wd)) (by rw [hlen]; exact hp)
                rw [hlen] at this
                exact this
            · cases h
          · cases h
        · cases h
      · cases h
  · rename_i wd xs
    obtain ⟨hu, h⟩ := cond_some h
    obtain ⟨e, hu, he, hw0, hi'⟩ := any_elem hu
    cases hx with
    | fl _ _ ad hx0 =>
      split at h
      · rename_i h' hh _
        split at h
        · rename_i l hl
          obtain ⟨hb, h1, h2⟩ := bounds2 (P := P) hs true hh hl (Nat.le_refl _) w
          have hp := sl_part hx0 h1 h2 h2 (Nat.le_refl _)
          have hlen : ((xs.drop l).take (h' - l)).length = h' - l := by simp; omega
          by_cases hb' : (h' == xs.length) = true
          · rw [hb'] at h
            injection h with h; subst h
            have hb' : h' = xs.length := by simpa using hb'
            subst hb'
            refine ⟨_, run_sliceAt_sl hu (some ad) _ _ hb hi', ?_⟩
            rw [he]
            by_cases hml : xs.length = l
            · rw [if_pos hml] at hp ⊢
              have := RelV.fl (c := c) (n := n) wd ((xs.drop l).take (xs.length - l)) ad (by rw [hlen]; exact hp)
              rw [hlen] at this
              exact this
            · rw [if_neg hml] at hp ⊢
              have := RelV.fl (c := c) (n := n) wd ((xs.drop l).take (xs.length - l)) (ad.add (l * wd)) (by rw [hlen]; exact hp)
              rw [hlen] at this
              exact this
          · rw [Bool.eq_false_iff.mpr hb'] at h
            injection h with h; subst h
            refine ⟨_, run_sliceAt_sl hu (some ad) _ _ hb hi', .d _ _ ?_⟩
            rw [he]
            exact hp
        · cases h
      · cases h
  · rename_i id wd off len
    obtain ⟨hu, h⟩ := cond_some h
    obtain ⟨e, hu, he, hw0, hi'⟩ := any_elem hu
    cases hx with
    | ms _ _ _ _ cap ad hid hcap ha hb ho hs' =>
      split at h
      · rename_i h' hh _
        split at h
        · rename_i l hl
          injection h with h; subst h
          obtain ⟨hb', h1, h2⟩ := bounds2 (P := P) hs true hh hl hcap w
          refine ⟨_, run_sliceAt_sl hu (some ad) _ cap hb' hi', ?_⟩
          rw [he]
          obtain ⟨cs, e', fz, hc1, hc2, hc3⟩ := hs'
          have hfit : (off + l + (cap - l)) * wd ≤ cs.size := Nat.le_trans (Nat.mul_le_mul_right _ (by omega)) hc2
          by_cases hml : cap = l
          · rw [if_pos hml]
            exact .ms id wd (off + l) (h' - l) (cap - l) ad hid (by omega) ha hb (Or.inr (by omega)) ⟨cs, e', fz, hc1, hfit, hc3⟩
          · rw [if_neg hml]
            show RelV c n _ (.slice (some (ad.add (l * wd))) (h' - l) (cap - l))
            rw [addr_add _ ha]
            exact .ms id wd (off + l) (h' - l) (cap - l) _ hid (by omega) rfl hb (ho.imp (fun h => by simp only [h, Nat.add_mul]) (fun h => by omega)) ⟨cs, e', fz, hc1, hfit, by
              have := ho.resolve_right (by omega)
              have h2 : (off + l) * wd ≤ (off + l + (cap - l)) * wd := Nat.mul_le_mul_right _ (by omega)
              rw [Nat.add_mul] at h2
              simp only []
              omega⟩
        · cases h
      · cases h
  · cases h

theorem extractV_sound {c : Cf} {n : Nat} {x r : V} {i : Nat} {vx : Value} (h : extractV x i = some r) (hx : RelV c n x vx) (w : World) :
    ∃ v, (Instr.extract vx i).run P w = .ok v w ∧ RelV c n r v := by
  unfold extractV at h
  split at h
  · obtain ⟨d, hd, rfl⟩ := Option.map_eq_some_iff.1 h
    cases hx.inv_d with
    | tp _ vs hl hh =>
      have hlt := (List.getElem?_eq_some_iff.1 hd).1
      refine ⟨vs.getD i undef, ?_, .d _ _ (hh _ _ hd)⟩
      have : vs[i]? = some (vs.getD i undef) := by
        rw [Array.getD_eq_getD_getElem?, Array.getElem?_eq_getElem (show i < vs.size by omega)]; rfl
      unfold Instr.extract
      simp only []
      rw [this]; rfl
  · cases hx with
    | tp _ vs hl hh =>
      have hlt := (List.getElem?_eq_some_iff.1 h).1
      refine ⟨vs.getD i undef, ?_, hh _ _ h⟩
      have : vs[i]? = some (vs.getD i undef) := by
        rw [Array.getD_eq_getD_getElem?, Array.getElem?_eq_getElem (show i < vs.size by omega)]; rfl
      unfold Instr.extract
      simp only []
      rw [this]; rfl
  · cases h

theorem lenV_sound {c : Cf} {n : Nat} {t ty : TypeId} {x r : V} {vx : Value} (h : lenV P t x = some r) (hx : RelV c n x vx) (w : World) :
    ∃ v, (Builtin.len_ #[t] ty #[vx]).run P w = .ok v w ∧ RelV c n r v := by
  unfold lenV at h
  split at h
  · cases hx.inv_d
    obtain ⟨hu, h⟩ := cond_some h
    injection h with h; subst h
    have hu := strT_und hu
    exact ⟨_, by simp [Builtin.len_, run_underlying hu, goInt], .d _ _ (.i _ _)⟩
  · cases hx.inv_d
    obtain ⟨hu, h⟩ := cond_some h
    injection h with h; subst h
    obtain ⟨e, hu⟩ := elemT_isSome hu
    exact ⟨_, by simp [Builtin.len_, run_underlying hu, goInt], .d _ _ (.i _ _)⟩
  · obtain ⟨hu, h⟩ := cond_some h
    injection h with h; subst h
    obtain ⟨e, hu⟩ := elemT_isSome hu
    cases hx.inv_d
    exact ⟨_, by simp [Builtin.len_, run_underlying hu, goInt], .d _ _ (.i _ _)⟩
  · obtain ⟨hu, h⟩ := cond_some h
    injection h with h; subst h
    obtain ⟨e, hu⟩ := elemT_isSome hu
    cases hx
    exact ⟨_, by simp [Builtin.len_, run_underlying hu, goInt], .d _ _ (.i _ _)⟩
  · obtain ⟨hu, h⟩ := cond_some h
    injection h with h; subst h
    obtain ⟨e, hu⟩ := elemT_isSome hu
    cases hx
    exact ⟨_, by simp [Builtin.len_, run_underlying hu, goInt], .d _ _ (.i _ _)⟩
  · cases h

/-! parts laid over noughts -/
theorem cells_rel {c : Cf} {n : Nat} {x : V} {v : Value} (h : RelV c n x v) (hj : okC x = true) :
    v.cells.size = x.cells.length ∧ ∀ (j : Nat) (y : V), x.cells[j]? = some y → RelV c n y (v.cells.getD j undef) ∧ (v.cells.getD j undef).oneCell' = true := by
  have one : ∀ (y : V) (u : Value), RelV c n y u → u.cells = #[u] → y.cells = [y] → u.oneCell' = true → u.cells.size = y.cells.length ∧ ∀ (j : Nat) (z : V), y.cells[j]? = some z → RelV c n z (u.cells.getD j undef) ∧ (u.cells.getD j undef).oneCell' = true := by
    intro y u hr h1 h2 h3
    rw [h1, h2]
    refine ⟨rfl, fun j z hz => ?_⟩
    cases j with
    | zero => simp only [List.getElem?_cons_zero, Option.some.injEq] at hz; subst hz; exact ⟨hr, h3⟩
    | succ j => simp at hz
  have h' := h
  cases h with
  | d x v hd =>
    cases hd with
    | ag cs vs hl h1 hh =>
      refine ⟨by simpa [Value.cells, V.cells] using hl, fun j y hy => ?_⟩
      simp only [V.cells, List.getElem?_map] at hy
      obtain ⟨d, hd, rfl⟩ := Option.map_eq_some_iff.1 hy
      exact ⟨.d _ _ (hh _ _ hd), h1 _ (List.getElem?_eq_some_iff.1 hd).1⟩
    | tp cs vs hl hh => cases hj
    | _ => exact one _ _ h' rfl rfl rfl
  | ag cs vs hl h1 hh => exact ⟨hl, fun j y hy => ⟨hh _ _ hy, h1 _ (List.getElem?_eq_some_iff.1 hy).1⟩⟩
  | tp cs vs hl hh => cases hj
  | junk => cases hj
  | _ => exact one _ _ h' rfl rfl rfl

end Go.Fw
