/- Fields, indices, slices, parts: what leads to memory, and what is read from it. By this session. -/
import Derived.Test.YtloambokbipnjaaFd
set_option linter.unusedVariables false
set_option linter.unusedSimpArgs false
namespace Go.Fw
variable {P : Program}

theorem info_of_sz {t : TypeId} (h : P.cellsOf t ≠ 0) : ∃ i, P.info? t = some i ∧ i.size = P.cellsOf t := by
  unfold Program.cellsOf at *
  cases hi : P.info? t with
  | none => rw [hi] at h; exact absurd rfl h
  | some i => exact ⟨i, rfl, rfl⟩
theorem run_sizeOf_nz {t : TypeId} (h : P.cellsOf t ≠ 0) (w : World) : (sizeOf t).run P w = .ok (P.cellsOf t) w := by
  obtain ⟨i, hi, hs⟩ := info_of_sz h
  simp [sizeOf, typeInfo, hi, hs]

theorem fld_und {t : TypeId} {i off : Nat} {u : TypeId} (h : fld P t i = some (off, u)) : ∃ fs f, P.underlying t = some (.struct fs) ∧ fs[i]? = some f ∧ f.offset = off ∧ f.type = u := by
  unfold fld at h
  split at h
  · rename_i fs hu
    obtain ⟨f, hf, he⟩ := Option.map_eq_some_iff.1 h
    injection he with h1 h2
    exact ⟨fs, f, hu, hf, h1, h2⟩
  · cases h
theorem arrT_und {t : TypeId} {n : Nat} {e : TypeId} (h : arrT P t = some (n, e)) : P.underlying t = some (.array n e) := by
  unfold arrT at h
  split at h
  · rename_i hu; injection h with h; injection h with h1 h2; subst h1; subst h2; exact hu
  · cases h
theorem strT_und {t : TypeId} (h : strT P t = true) : P.underlying t = some .string := by
  unfold strT at h
  split at h
  · assumption
  · cases h
theorem intT_und {t : TypeId} {k : IntKind} (h : intT P t = some k) : P.underlying t = some (.int k) := by
  unfold intT at h
  split at h
  · rename_i hu; injection h with h; subst h; exact hu
  · cases h

theorem fieldV_sound {c : Cf} {n : Nat} {t : TypeId} {x r : V} {i : Nat} {vx : Value} (h : fieldV P t x i = some r) (hx : RelV c n x vx) (w : World) :
    ∃ v, (Instr.field t vx i).run P w = .ok v w ∧ RelV c n r v := by
  unfold fieldV at h
  split at h
  · rename_i off u hf
    obtain ⟨fs, f, hu, hfi, rfl, rfl⟩ := fld_und hf
    split at h
    · obtain ⟨r', hr, rfl⟩ := Option.map_eq_some_iff.1 h
      cases hx.inv_d with
      | ag _ vs hl h1 hh =>
        obtain ⟨v, hv, hrv⟩ := partD_sound hr hl h1 hh w
        exact ⟨v, by simp [Instr.field, run_underlying hu, hfi, asAgg, hv], .d _ _ hrv⟩
    · cases hx with
      | ag _ vs hl h1 hh =>
        obtain ⟨v, hv, hrv⟩ := partV_sound h hl h1 hh w
        exact ⟨v, by simp [Instr.field, run_underlying hu, hfi, asAgg, hv], hrv⟩
    · cases h
  · cases h

theorem addr_add (a : Addr) (ha : a.spot = none) (k : Nat) : a.add k = ⟨a.block, a.off + k, none⟩ := by
  unfold Addr.add
  split
  · rename_i h; subst h; cases a; simp_all
  · rfl

theorem fieldAddrV_sound {c : Cf} {n : Nat} {t : TypeId} {x r : V} {i : Nat} {vx : Value} (h : fieldAddrV P t x i = some r) (hx : RelV c n x vx) (w : World) :
    ∃ v, (Instr.fieldAt t vx i).run P w = .ok v w ∧ RelV c n r v := by
  unfold fieldAddrV at h
  split at h
  · rename_i off u hf
    obtain ⟨fs, f, hu, hfi, rfl, rfl⟩ := fld_und hf
    obtain ⟨hz, h⟩ := cond_none h
    have hz' : P.cellsOf f.type ≠ 0 := by simpa [sz] using hz
    have hrun : ∀ a : Addr, (Instr.fieldAt t (.pointer (some a)) i).run P w = .ok (.pointer (some (a.add f.offset))) w := by
      intro a
      simp [Instr.fieldAt, run_underlying hu, hfi, Instr.sureAddr, fieldPlace, run_sizeOf_nz hz', hz']
    split at h
    · injection h with h; subst h
      cases hx with
      | pt id o hid => exact ⟨_, hrun _, by rw [addr_add _ rfl]; exact .pt _ _ hid⟩
    · injection h with h; subst h
      cases hx with
      | ep id wd k o hid => exact ⟨_, hrun _, by rw [addr_add _ rfl, Nat.add_assoc]; exact .ep _ _ _ _ hid⟩
    · rename_i cs o _
      injection h with h; subst h
      cases hx with
      | rp _ _ a vs e fz hs hI hc ho hb h1 hh =>
        refine ⟨_, hrun _, ?_⟩
        rw [addr_add _ hs]
        have e1 : a.off + f.offset - (o + f.offset) = a.off - o := by omega
        exact .rp cs _ _ vs e fz rfl hI hc (by simp only []; omega) (by simp only [e1]; exact hb) (by simp only [e1]; exact h1) (by simp only [e1]; exact hh)
    · cases h
  · cases h

theorem asNat_spec {n : Int} {b j : Nat} (h : asNat n b = some j) : 0 ≤ n ∧ n < b ∧ j = n.toNat ∧ j < b := by
  unfold asNat at h
  obtain ⟨hb, h⟩ := cond_some h
  injection h with h
  simp only [Bool.and_eq_true, decide_eq_true_eq] at hb
  exact ⟨hb.1, hb.2, h.symm, by omega⟩

theorem indexV_sound {c : Cf} {n : Nat} {t : TypeId} {x i r : V} {vx vi : Value} (h : indexV P t x i = some r) (hx : RelV c n x vx) (hi : RelV c n i vi) (w : World) :
    ∃ v, (Instr.index t vx vi).run P w = .ok v w ∧ RelV c n r v := by
  unfold indexV at h
  split at h
  · rename_i k m
    cases hi.inv_d
    split at h
    · rename_i s
      cases hx.inv_d
      obtain ⟨hu, h⟩ := cond_some h
      have hu := strT_und hu
      split at h
      · rename_i j hj
        injection h with h; subst h
        obtain ⟨h0, h1, rfl, hlt⟩ := asNat_spec hj
        refine ⟨.int .u8 ((s.data.toList.getD m.toNat 0).toNat : Int), ?_, .d _ _ (.i _ _)⟩
        have hg : s[m.toNat]? = some (s.data.toList.getD m.toNat 0) := by
          rw [ByteArray.getElem?_lt' s _ hlt]
          have : m.toNat < s.data.toList.length := by simpa using hlt
          rw [List.getD_eq_getElem?_getD, List.getElem?_eq_getElem this]
          rfl
        simp only [Instr.index, asIntOf, Sem.run_bind, Sem.run_pure, Result.andThen_ok, run_underlying hu]
        rw [if_pos h0, hg]
        rfl
      · cases h
    · rename_i cs
      split at h
      · rename_i len e ha
        have ha := arrT_und ha
        split at h
        · rename_i j hj
          obtain ⟨h0, h1, rfl, hlt⟩ := asNat_spec hj
          obtain ⟨r', hr, rfl⟩ := Option.map_eq_some_iff.1 h
          cases hx.inv_d with
          | ag _ vs hl h1' hh =>
            obtain ⟨v, hv, hrv⟩ := partD_sound hr hl h1' hh w
            refine ⟨v, ?_, .d _ _ hrv⟩
            have hs : ∃ d, P.underlying e = some d := by
              unfold partD at hr
              split at hr
              · rename_i hh; exact aggT_und hh
              · rename_i hh; exact aggT_und hh
              · cases hr
            obtain ⟨d, hd⟩ := hs
            have : 0 ≤ m ∧ m < (len : Int) := ⟨h0, h1⟩
            simp only [Instr.index, asIntOf, Sem.run_bind, Sem.run_pure, Result.andThen_ok, run_underlying ha, if_pos this, run_sizeOf' hd]
            exact hv
        · cases h
      · cases h
    · rename_i cs
      split at h
      · rename_i len e ha
        have ha := arrT_und ha
        split at h
        · rename_i j hj
          obtain ⟨h0, h1, rfl, hlt⟩ := asNat_spec hj
          cases hx with
          | ag _ vs hl h1' hh =>
            obtain ⟨v, hv, hrv⟩ := partV_sound h hl h1' hh w
            refine ⟨v, ?_, hrv⟩
            have hs : ∃ d, P.underlying e = some d := by
              unfold partV at h
              split at h
              · rename_i hh; exact aggT_und hh
              · rename_i hh; exact aggT_und hh
              · cases h
            obtain ⟨d, hd⟩ := hs
            have : 0 ≤ m ∧ m < (len : Int) := ⟨h0, h1⟩
            simp only [Instr.index, asIntOf, Sem.run_bind, Sem.run_pure, Result.andThen_ok, run_underlying ha, if_pos this, run_sizeOf' hd]
            exact hv
        · cases h
      · cases h
    · cases h
  · cases h

/-- an element of a slice in plain data: a place of its own -/
theorem sl_elem {c : Cf} {n : Nat} {wd : Nat} {xs : List D} {a : Addr} {l cap : Nat} (h : RelD c.w c.I (.sl wd xs) (.slice (some a) l cap)) {j : Nat} {y : D} (hj : xs[j]? = some y) :
    l = xs.length ∧ a.spot = none ∧ RelV c n (.rp y.cells 0) (.pointer (some ⟨a.block, a.off + j * wd, none⟩)) := by
  cases h with
  | sl _ _ _ _ cs e fz hs hI hc hcap hw hb h1 hh =>
    refine ⟨rfl, hs, ?_⟩
    have hlt := (List.getElem?_eq_some_iff.1 hj).1
    have hwy : y.cells.length = wd := hw y (List.mem_of_getElem? hj)
    have hm : (j + 1) * wd ≤ xs.length * wd := Nat.mul_le_mul_right _ hlt
    rw [Nat.add_mul, Nat.one_mul] at hm
    exact .rp y.cells 0 _ cs e fz rfl hI hc (Nat.zero_le _) (by simp only [Nat.sub_zero]; omega)
      (fun k hk => by simp only [Nat.sub_zero]; rw [Nat.add_assoc]; exact h1 _ (by omega))
      (fun k d hd => by simp only [Nat.sub_zero]; exact hh j k y d hj hd)

theorem run_indexAt_slice {t e : TypeId} (hu : P.underlying t = some (.slice e)) (a : Addr) (len cap : Nat) (k : IntKind) (m : Int) (h0 : 0 ≤ m) (h1 : m < len) (hs : ∃ d, P.info? e = some d) (w : World) :
    (Instr.indexAt t (.slice (some a) len cap) (.int k m)).run P w = .ok (.pointer (some (a.add (m.toNat * P.cellsOf e)))) w := by
  obtain ⟨d, hd⟩ := hs
  have : 0 ≤ m ∧ m < (len : Int) := ⟨h0, h1⟩
  simp [Instr.indexAt, asIntOf, run_underlying hu, sizeOf, typeInfo, hd, this, Program.cellsOf]

theorem indexAddrV_sound {c : Cf} {n : Nat} {t : TypeId} {x i r : V} {vx vi : Value} (h : indexAddrV P t x i = some r) (hx : RelV c n x vx) (hi : RelV c n i vi) (w : World) :
    ∃ v, (Instr.indexAt t vx vi).run P w = .ok v w ∧ RelV c n r v := by
  unfold indexAddrV at h
  split at h
  · rename_i k m
    cases hi.inv_d
    split at h
    · rename_i e he
      have hu := elemT_und he
      split at h
      · rename_i wd xs
        obtain ⟨hw, h⟩ := cond_some h
        rw [Bool.and_eq_true] at hw
        obtain ⟨hw, hw0⟩ := hw
        have hw0 := Nat.le_of_ble_eq_true hw0
        have hw : wd = sz P e := by simpa using hw
        split at h
        · rename_i j hj
          obtain ⟨h0, h1, rfl, hlt⟩ := asNat_spec hj
          split at h
          · rename_i y hy
            injection h with h; subst h
            have hx := hx.inv_d
            cases hx with
            | sl _ _ a cap cs e' fz hs hI hc hcap hww hb h1' hh =>
              have hx' : RelD c.w c.I (.sl wd xs) (.slice (some a) xs.length cap) := .sl _ _ a cap cs e' fz hs hI hc hcap hww hb h1' hh
              obtain ⟨_, hsp, hr⟩ := sl_elem (n := n) hx' hy
              have hi : ∃ d, P.info? e = some d := by
                obtain ⟨i, hi, _⟩ := info_of_sz (t := e) (P := P) (by rw [show P.cellsOf e = wd from by rw [hw]; rfl]; omega)
                exact ⟨i, hi⟩
              refine ⟨_, run_indexAt_slice hu a _ cap k m h0 h1 hi w, ?_⟩
              rw [addr_add _ hsp, show P.cellsOf e = wd from by rw [hw]; rfl]
              exact hr
          · cases h
        · cases h
      · rename_i wd xs
        obtain ⟨hw, h⟩ := cond_some h
        rw [Bool.and_eq_true] at hw
        obtain ⟨hw, hw0⟩ := hw
        have hw0 := Nat.le_of_ble_eq_true hw0
        have hw : wd = sz P e := by simpa using hw
        split at h
        · rename_i j hj
          obtain ⟨h0, h1, rfl, hlt⟩ := asNat_spec hj
          split at h
          · rename_i y hy
            injection h with h; subst h
            cases hx with
            | fl _ _ a hx' =>
              obtain ⟨_, hsp, hr⟩ := sl_elem (n := n) hx' hy
              have hi : ∃ d, P.info? e = some d := by
                obtain ⟨i, hi, _⟩ := info_of_sz (t := e) (P := P) (by rw [show P.cellsOf e = wd from by rw [hw]; rfl]; omega)
                exact ⟨i, hi⟩
              refine ⟨_, run_indexAt_slice hu a _ _ k m h0 h1 hi w, ?_⟩
              rw [addr_add _ hsp, show P.cellsOf e = wd from by rw [hw]; rfl]
              exact hr
          · cases h
        · cases h
      · rename_i id wd off len
        obtain ⟨hw, h⟩ := cond_some h
        rw [Bool.and_eq_true] at hw
        obtain ⟨hw, hw0⟩ := hw
        have hw0 := Nat.le_of_ble_eq_true hw0
        have hw : wd = sz P e := by simpa using hw
        split at h
        · rename_i j hj
          obtain ⟨h0, h1, rfl, hlt⟩ := asNat_spec hj
          injection h with h; subst h
          cases hx with
          | ms _ _ _ _ cap a hid hcap ha hb ho hs =>
            have ho : a.off = off * wd := ho.resolve_right (by omega)
            have hi : ∃ d, P.info? e = some d := by
              obtain ⟨i, hi, _⟩ := info_of_sz (t := e) (P := P) (by rw [show P.cellsOf e = wd from by rw [hw]; rfl]; omega)
              exact ⟨i, hi⟩
            refine ⟨_, run_indexAt_slice hu a _ cap k m h0 h1 hi w, ?_⟩
            rw [addr_add _ ha, hb, ho, show P.cellsOf e = wd from by rw [hw]; rfl, ← Nat.add_mul]
            exact .ep _ _ _ 0 hid
        · cases h
      · cases h
    · split at h
      · rename_i len e ha
        have ha := arrT_und ha
        split at h
        · rename_i id o
          obtain ⟨hw0, h⟩ := cond_some h
          have hw0 := Nat.le_of_ble_eq_true hw0
          unfold sz at hw0
          split at h
          · rename_i j hj
            obtain ⟨h0, h1, rfl, hlt⟩ := asNat_spec hj
            injection h with h; subst h
            cases hx with
            | pt _ _ hid =>
              have hi : ∃ d, P.info? e = some d := by
                obtain ⟨i, hi, _⟩ := info_of_sz (t := e) (P := P) (by omega)
                exact ⟨i, hi⟩
              obtain ⟨d, hd⟩ := hi
              refine ⟨.pointer (some ((⟨c.bk id, o, none⟩ : Addr).add (m.toNat * P.cellsOf e))), ?_, ?_⟩
              · have : 0 ≤ m ∧ m < (len : Int) := ⟨h0, h1⟩
                simp [Instr.indexAt, asIntOf, run_underlying ha, Instr.sureAddr, sizeOf, typeInfo, hd, this, Program.cellsOf]
              · rw [addr_add _ rfl]
                exact .pt _ _ hid
          · cases h
        · rename_i cs o
          obtain ⟨hw0, h⟩ := cond_some h
          have hw0 := Nat.le_of_ble_eq_true hw0
          unfold sz at hw0
          split at h
          · rename_i j hj
            obtain ⟨h0, h1, rfl, hlt⟩ := asNat_spec hj
            injection h with h; subst h
            cases hx with
            | rp _ _ ad vs e' fz hs hI hc ho hb h1' hh =>
              obtain ⟨d, hd, _⟩ := info_of_sz (t := e) (P := P) (by omega)
              refine ⟨.pointer (some (ad.add (m.toNat * P.cellsOf e))), ?_, ?_⟩
              · have : 0 ≤ m ∧ m < (len : Int) := ⟨h0, h1⟩
                simp [Instr.indexAt, asIntOf, run_underlying ha, Instr.sureAddr, sizeOf, typeInfo, hd, this, Program.cellsOf]
              · rw [addr_add _ hs]
                have e1 : ad.off + m.toNat * P.cellsOf e - (o + m.toNat * P.cellsOf e) = ad.off - o := by omega
                exact .rp cs _ _ vs e' fz rfl hI hc (by simp only [sz]; omega) (by simp only [sz, e1]; exact hb) (by simp only [sz, e1]; exact h1') (by simp only [sz, e1]; exact hh)
          · cases h
        · cases h
      · cases h
  · cases h
end Go.Fw
