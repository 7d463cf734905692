/- Fields that are put one behind the other come to the same message in whatever order, if none is there twice. -/
import Derived.Test.YtkgnhjmbnmaboaaGreatDoorRows
import Derived.Test.YtkgnhjmbnmaboaaGreatDoorCards
import Derived.Test.YtkgnhjmbnmaboaaGreatDoorTie
import Derived.SevenTiedAt
import Derived.ProofKit
import Derived.LaidMore
import Derived.Lay
import Derived.MakeChecks
import Derived.Test.YtkgnhjmbnmaboaaGreatDoorKIsoOrder2
section
/- IsoOrder: plain law. By this session. -/
set_option linter.unusedVariables false
set_option linter.unusedSimpArgs false
namespace Go.Proofs.YtkgnhjmbnmaboaaGreatDoor
open Go Go.Fw
theorem bounds8o {n : Int} (h : (Lit.int .u8 n).wf = true) : 0 ≤ n ∧ n ≤ 255 := by
  simp [Lit.wf, IntKind.min, IntKind.max, IntKind.signed, IntKind.bits] at h
  omega
abbrev wfF (f : Fld) : Prop := (Lit.int .i64 f.1).wf = true
theorem snoc_lt {o : List Fld} {y : Fld} {i : Nat} (h : i < o.length) : (o ++ [y]).getD i zF = o.getD i zF := by
  rw [List.getD_eq_getElem?_getD, List.getD_eq_getElem?_getD, List.getElem?_append_left h]
theorem snoc_last {o : List Fld} {y : Fld} : (o ++ [y]).getD o.length zF = y := by
  rw [List.getD_eq_getElem?_getD, List.getElem?_append_right (Nat.le_refl _)]
  simp
theorem once_snoc {o : List Fld} {y : Fld} (h : Once o) (hn : ∀ z ∈ o, z.1 ≠ y.1) : Once (o ++ [y]) := by
  intro i j hi hj e
  simp only [List.length_append, List.length_cons, List.length_nil] at hi hj
  have hin : ∀ k, k < o.length → (o.getD k zF) ∈ o := fun k hk => by rw [getD_at hk]; exact List.getElem_mem _
  by_cases h1 : i < o.length
  · by_cases h2 : j < o.length
    · rw [snoc_lt h1, snoc_lt h2] at e
      exact h i j h1 h2 e
    · have : j = o.length := by omega
      subst this
      rw [snoc_lt h1, snoc_last] at e
      exact absurd e (hn _ (hin i h1))
  · have : i = o.length := by omega
    subst this
    by_cases h2 : j < o.length
    · rw [snoc_lt h2, snoc_last] at e
      exact absurd e.symm (hn _ (hin j h2))
    · omega
structure MetI (i : Nat) (met once : List Fld) : Prop where
  sole : Once once
  get : ∀ n v, mget (.i .i64) .s met n = some v ↔ (n, v) ∈ once
  len : once.length ≤ i
  wf : ∀ f ∈ once, wfF f
theorem MetI.up {i : Nat} {met once : List Fld} (h : MetI i met once) : MetI (i + 1) met once := ⟨h.sole, h.get, Nat.le_succ_of_le h.len, h.wf⟩
theorem MetI.add {i : Nat} {met once : List Fld} (h : MetI i met once) {n : Int} {v : ByteArray} (hn : mget (.i .i64) .s met n = none) (hw : (Lit.int .i64 n).wf = true) : MetI (i + 1) (mput (.i .i64) .s met n v) (once ++ [(n, v)]) := by
  have hne : ∀ z ∈ once, z.1 ≠ n := fun z hz e => by
    obtain ⟨m, u⟩ := z
    simp only at e
    subst e
    rw [(h.get _ _).2 hz] at hn
    cases hn
  refine ⟨once_snoc h.sole hne, fun m u => ?_, by simp only [List.length_append, List.length_cons, List.length_nil]; have := h.len; omega, fun f hf => ?_⟩
  · rw [met_put, List.mem_append, List.mem_singleton]
    by_cases e : m = n
    · subst e
      rw [if_pos rfl]
      constructor
      · intro h'; injection h' with h'; right; rw [h']
      · rintro (h' | h')
        · exact absurd rfl (hne _ h')
        · injection h' with _ h'; rw [h']
    · rw [if_neg e, h.get]
      constructor
      · exact .inl
      · rintro (h' | h')
        · exact h'
        · injection h' with h' _; exact absurd h' e
  · rcases List.mem_append.1 hf with hf | hf
    · exact h.wf f hf
    · rw [List.mem_singleton.1 hf]; exact hw
abbrev t08 : ByteArray := bs [48, 56, 48, 48]
theorem l9_is (l : List Fld) (hl : l.length ≤ 40) (hw : ∀ f ∈ l, wfF f) (w : Int) : ∀ (k i : Nat) (met once : List Fld), i + k = l.length → MetI i met once →
    ∃ met' once', bursarlaw19_IsoOrder.l9 (l, w, (i : Int), t08, [], t08, [], met, once) = some (w, once', t08, [], t08, [], met') ∧ MetI l.length met' once'
  | 0, i, met, once, hk, h => by
    have : i = l.length := by omega
    subst this
    exact ⟨met, once, rounds_end (by simp only [bursarlaw19_IsoOrder.t9, outb, cond_false]), h⟩
  | k + 1, i, met, once, hk, h => by
    have hi : i < l.length := by omega
    have hx : wfF (l.getD i zF) := by rw [getD_at hi]; exact hw _ (List.getElem_mem hi)
    have hle := h.len
    obtain ⟨⟨n, v⟩, hg⟩ : ∃ x, l.getD i zF = x := ⟨_, rfl⟩
    rw [hg] at hx
    have hkf : Ty.keyFit (.i .i64) n = true := hx
    have step : ∃ met1 once1, bursarlaw19_IsoOrder.t9 (l, w, (i : Int), t08, [], t08, [], met, once) = some (.inl (l, w, ((i + 1 : Nat) : Int), t08, [], t08, [], met1, once1)) ∧ MetI (i + 1) met1 once1 := by
      unfold bursarlaw19_IsoOrder.t9
      rw [dflt_fld]
      simp only [inb hi, cond_true, ge0' i, Bool.and_self, Int.toNat_natCast, hg, wrap_up (show i < 9223372036854775807 by omega), hkf, List.length_cons, List.length_nil]
      rw [Nat.ble_eq_true_of_le (by omega), Nat.ble_eq_true_of_le (by omega)]
      cases hm : mget (.i .i64) .s met n with
      | none =>
        have hh : mhas (.i .i64) .s met n = false := by unfold mhas; rw [hm]
        rw [hh]
        by_cases c : (v.size : Int) > 60
        · rw [decide_eq_true c, decide_eq_true (show (60 : Int) ≤ (v.size : Int) by omega)]
          exact ⟨_, _, rfl, h.add hm hx⟩
        · rw [decide_eq_false c]
          exact ⟨_, _, rfl, h.add hm hx⟩
      | some u =>
        have hh : mhas (.i .i64) .s met n = true := by unfold mhas; rw [hm]
        rw [hh]
        by_cases c : (v.size : Int) > 60
        · rw [decide_eq_true c, decide_eq_true (show (60 : Int) ≤ (v.size : Int) by omega)]
          exact ⟨_, _, rfl, h.up⟩
        · rw [decide_eq_false c]
          exact ⟨_, _, rfl, h.up⟩
    obtain ⟨met1, once1, hs, h1⟩ := step
    obtain ⟨met', once', h2, h3⟩ := l9_is l hl hw w k (i + 1) met1 once1 (by omega) h1
    refine ⟨met', once', ?_, h3⟩
    unfold bursarlaw19_IsoOrder.l9 at h2 ⊢
    rw [rounds_next hs, h2]
theorem puts_le (o : List Fld) (s : Nat → Nat) : ∀ i, (puts o s i).length ≤ i
  | 0 => Nat.le_refl _
  | i + 1 => by
    have ih := puts_le o s i
    have hk : (keepF (puts o s i) (o.getD (s i) zF).1).length ≤ (puts o s i).length := List.length_filter_le _ _
    simp only [puts, putF_len]
    omega
theorem l12_is {o : List Fld} (ho : o.length ≤ 40) {r : Nat} (hr : r ≤ 255) (met : List Fld) :
    bursarlaw19_IsoOrder.l12 ((r : Int), o, 0, t08, [], t08, [], met) = some (o, t08, puts o id o.length, t08, puts o (fun i => (i + r) % o.length) o.length, met) := by
  have h := rounds_to (t := bursarlaw19_IsoOrder.t12) (fun i => ((r : Int), o, ((i : Nat) : Int), t08, puts o id i, t08, puts o (fun i => (i + r) % o.length) i, met)) o.length (fun i hi => by
    have p1 := puts_le o id i
    have p2 := puts_le o (fun i => (i + r) % o.length) i
    have hm : (i + r) % o.length < o.length := Nat.mod_lt _ (by omega)
    have ew : IntKind.wrap .i64 (r : Int) = (r : Int) := wrap_i64 (by omega) (by omega)
    have ew2 : IntKind.wrap .i64 ((i : Int) + (r : Int)) = ((i + r : Nat) : Int) := by rw [wrap_i64 (by omega) (by omega)]; omega
    have et : Int.tmod ((i + r : Nat) : Int) (o.length : Int) = (((i + r) % o.length : Nat) : Int) := (Int.ofNat_tmod _ _).symm
    have hne : decide ((o.length : Int) = 0) = false := decide_eq_false (by omega)
    obtain ⟨⟨n, v⟩, hx⟩ : ∃ x, o.getD i zF = x := ⟨_, rfl⟩
    obtain ⟨⟨m, u⟩, hy⟩ : ∃ y, o.getD ((i + r) % o.length) zF = y := ⟨_, rfl⟩
    have e1 : puts o id (i + 1) = putF (keepF (puts o id i) n) n v := by
      show putF (keepF (puts o id i) (o.getD i zF).1) (o.getD i zF).1 (o.getD i zF).2 = _
      rw [hx]
    have e2 : puts o (fun i => (i + r) % o.length) (i + 1) = putF (keepF (puts o (fun i => (i + r) % o.length) i) m) m u := by
      show putF (keepF _ (o.getD ((i + r) % o.length) zF).1) (o.getD ((i + r) % o.length) zF).1 (o.getD ((i + r) % o.length) zF).2 = _
      rw [hy]
    have hk : (keepF (puts o id i) n).length ≤ (puts o id i).length := List.length_filter_le _ _
    have hq : (putF (keepF (puts o id i) n) n (bs [111, 116, 104, 101, 114])).length ≤ 1000 := by rw [putF_len]; omega
    rw [e1, e2]
    unfold bursarlaw19_IsoOrder.t12
    rw [dflt_fld]
    simp only [inb hi, cond_true, ge0', Bool.and_self, Int.toNat_natCast, hne, cond_false, ew, ew2, et, inb hm, hx, hy, put_is (show (puts o id i).length ≤ 1000 by omega), Option.bind_some, put_is hq, put_twice, put_is (show (puts o (fun i => (i + r) % o.length) i).length ≤ 1000 by omega), wrap_up (show i < 9223372036854775807 by omega)])
  have h' : bursarlaw19_IsoOrder.l12 ((r : Int), o, 0, t08, [], t08, [], met) = rounds bursarlaw19_IsoOrder.t12 ((r : Int), o, ((o.length : Nat) : Int), t08, puts o id o.length, t08, puts o (fun i => (i + r) % o.length) o.length, met) := h
  rw [h', rounds_end (r := (o, t08, puts o id o.length, t08, puts o (fun i => (i + r) % o.length) o.length, met)) (by simp only [bursarlaw19_IsoOrder.t12, outb, cond_false])]
theorem l18_is {a met : List Fld} (ha : a.length ≤ 1000) (hr : Rise a) (hw : ∀ f ∈ a, wfF f) (hm : ∀ f ∈ a, mget (.i .i64) .s met f.1 = some f.2) : bursarlaw19_IsoOrder.l18 (0, t08, a, met) = some (.inr ()) := by
  have h := rounds_to (t := bursarlaw19_IsoOrder.t18) (fun i => (((i : Nat) : Int), t08, a, met)) a.length (fun i hi => by
    have hin : a.getD i zF ∈ a := by rw [getD_at hi]; exact List.getElem_mem _
    have hkf : Ty.keyFit (.i .i64) (a.getD i zF).1 = true := hw _ hin
    have hgd : mgetD (.i .i64) .s met (a.getD i zF).1 (bs []) = (a.getD i zF).2 := by unfold mgetD; rw [hm _ hin]
    unfold bursarlaw19_IsoOrder.t18
    rw [dflt_fld]
    simp only [inb hi, cond_true, ge0' i, Bool.and_self, Int.toNat_natCast, get_is ha, getF_rise hr hi, Option.bind_some, Bool.not_true, cond_false, hkf, hgd, texts_eq, decide_true, wrap_up (show i < 9223372036854775807 by omega)]
    by_cases h0 : i = 0
    · subst h0; rfl
    · have ew : IntKind.wrap .i64 ((i : Int) - 1) = ((i - 1 : Nat) : Int) := by rw [wrap_i64 (by omega) (by omega)]; omega
      have hlt : (a.getD (i - 1) zF).1 < (a.getD i zF).1 := by
        rw [getD_at hi, getD_at (show i - 1 < a.length by omega)]
        exact List.pairwise_iff_getElem.1 hr (i - 1) i (by omega) hi (by omega)
      rw [decide_eq_true (show (i : Int) > 0 by omega), ew]
      simp only [cond_true, ge0', inb (show i - 1 < a.length by omega), Bool.and_self, Int.toNat_natCast]
      rw [decide_eq_false (show ¬ (a.getD (i - 1) zF).1 ≥ (a.getD i zF).1 by omega)]
      rfl)
  have h' : bursarlaw19_IsoOrder.l18 (0, t08, a, met) = rounds bursarlaw19_IsoOrder.t18 (((a.length : Nat) : Int), t08, a, met) := h
  rw [h', rounds_end (r := .inr ()) (by simp only [bursarlaw19_IsoOrder.t18, outb, cond_false])]
theorem IsoOrder_is (a : List Fld × Int) (hw : ∀ f ∈ a.1, wfF f) (h8 : 0 ≤ a.2 ∧ a.2 ≤ 255) : bursarlaw19_IsoOrder.f a = some true := by
  obtain ⟨l, w⟩ := a
  have hw : ∀ f ∈ l, wfF f := hw
  have h81 : 0 ≤ w := h8.1
  have h82 : w ≤ 255 := h8.2
  obtain ⟨r, rfl⟩ : ∃ r : Nat, w = r := ⟨w.toNat, by omega⟩
  have h0 : MetI 0 [] [] := ⟨fun i j hi => by simp at hi, fun n v => by simp [mget], Nat.le_refl _, fun f hf => by cases hf⟩
  have main : ∀ m : List Fld, m.length ≤ 40 → (∀ f ∈ m, wfF f) → ∃ met once, bursarlaw19_IsoOrder.l9 (m, (r : Int), 0, t08, [], t08, [], [], []) = some ((r : Int), once, t08, [], t08, [], met) ∧ MetI m.length met once := fun m hm hmw => by
    obtain ⟨met, once, h1, h2⟩ := l9_is m hm hmw (r : Int) m.length 0 [] [] (by omega) h0
    exact ⟨met, once, h1, h2⟩
  have rest : ∀ (met once : List Fld) (k : Nat), k ≤ 40 → MetI k met once → bursarlaw19_IsoOrder.l12 ((r : Int), once, 0, t08, [], t08, [], met) = some (once, t08, puts once id once.length, t08, puts once id once.length, met) ∧ iso_Same.f ((t08, puts once id once.length), (t08, puts once id once.length)) = some true ∧ (((puts once id once.length).length : Int) != (once.length : Int)) = false ∧ bursarlaw19_IsoOrder.l18 (0, t08, puts once id once.length, met) = some (.inr ()) := fun met once k hk h => by
    have hl := h.len
    have hpl := puts_len h.sole once.length (Nat.le_refl _)
    refine ⟨?_, ?_, ?_, ?_⟩
    · rw [l12_is (by omega) (by omega), puts_turn h.sole]
    · rw [isoSame_is _ _ (show (puts once id once.length).length ≤ 1001 by omega), decide_eq_true rfl]
    · rw [hpl]; simp
    · exact l18_is (by omega) (puts_rise _ _ _) (fun f hf => h.wf f ((puts_id h.sole f).1 hf)) (fun f hf => (h.get f.1 f.2).2 ((puts_id h.sole f).1 hf))
  unfold bursarlaw19_IsoOrder.f
  by_cases c : (l.length : Int) > 40
  · obtain ⟨met, once, h1, h2⟩ := main (List.take 40 (List.drop 0 l)) (by simp; omega) (fun f hf => hw f (List.mem_of_mem_drop (List.mem_of_mem_take hf)))
    obtain ⟨r1, r2, r3, r4⟩ := rest met once _ (by simp; omega) h2
    rw [decide_eq_true c, decide_eq_true (show (40 : Int) ≤ (l.length : Int) by omega)]
    simp only [Bool.and_self, cond_true, h1, Option.bind_some, r1, r2, Bool.not_true, cond_false, r3, r4, awake19]
  · obtain ⟨met, once, h1, h2⟩ := main l (by omega) hw
    obtain ⟨r1, r2, r3, r4⟩ := rest met once _ (by omega) h2
    rw [decide_eq_false c]
    simp only [cond_false, h1, Option.bind_some, r1, r2, Bool.not_true, r3, r4, awake19]
end Go.Proofs.YtkgnhjmbnmaboaaGreatDoor
end
section
/- Fields that are put one behind the other come to the same message in whatever order, if none is there twice. -/
set_option linter.unusedVariables false
set_option linter.unusedSimpArgs false
namespace Go.Proofs.YtkgnhjmbnmaboaaGreatDoor.isoOrder
open Go Go.Fw Go.ChangeShapes Go.WideShapes Go.ChangeAt Go.RowKit
theorem own : ownKnob Tryz.prog.godebug = none := by kernel_rfl
theorem laidOut : laidOutB Tryz.prog = true := by kernel_rfl
set_option maxRecDepth 100000 in
theorem told {W : World} (h : laidMetH Tryz.prog Rows.isoOrderRow.laid W) : Glob ⟨W, fun b => b < W.heap.size, fun _ => False, fun _ => 0, fun _ => 0, G1⟩ := by
  rw [MakeChecks.laidMetH_plain _ _ _ (by kernel_rfl)] at h
  have f5 := globAt_tab (P := Tryz.prog) (g := 5) (k := .u64) (zs := [1, 10, 100, 1000, 10000, 100000, 1000000, 10000000, 100000000, 1000000000, 10000000000, 100000000000, 1000000000000, 10000000000000, 100000000000000, 1000000000000000, 10000000000000000, 100000000000000000, 1000000000000000000, 10000000000000000000]) (by kernel_rfl) (Lib.tabIs_of_head (g := 5) (by kernel_rfl) (by kernel_rfl) Tryz.underlying268 Tryz.underlying114 (by kernel_rfl) (by kernel_rfl) (laidMet.tail (laidMet.tail h)))
  have f2 := globAt_err (P := Tryz.prog) (g := 2) (by kernel_rfl) (laid_err (g := 2) (laidMet.tail (laidMet.tail (laidMet.tail (laidMet.tail h)))) (by kernel_rfl) (by kernel_rfl) Tryz.underlying156)
  have f1 := globAt_err (P := Tryz.prog) (g := 1) (by kernel_rfl) (laid_err (g := 1) (laidMet.tail (laidMet.tail (laidMet.tail (laidMet.tail (laidMet.tail h))))) (by kernel_rfl) (by kernel_rfl) Tryz.underlying156)
  have f0 := globAt_tab (P := Tryz.prog) (g := 0) (k := .u8) (zs := [0, 0, 0, 0, 0, 0, 0, 0, 0, 1, 1, 1, 1, 1, 0, 0, 0, 0, 0, 0, 0, 0, 0, 0, 0, 0, 0, 0, 0, 0, 0, 0, 1, 0, 0, 0, 0, 0, 0, 0, 0, 0, 0, 0, 0, 0, 0, 0, 0, 0, 0, 0, 0, 0, 0, 0, 0, 0, 0, 0, 0, 0, 0, 0, 0, 0, 0, 0, 0, 0, 0, 0, 0, 0, 0, 0, 0, 0, 0, 0, 0, 0, 0, 0, 0, 0, 0, 0, 0, 0, 0, 0, 0, 0, 0, 0, 0, 0, 0, 0, 0, 0, 0, 0, 0, 0, 0, 0, 0, 0, 0, 0, 0, 0, 0, 0, 0, 0, 0, 0, 0, 0, 0, 0, 0, 0, 0, 0, 0, 0, 0, 0, 0, 0, 0, 0, 0, 0, 0, 0, 0, 0, 0, 0, 0, 0, 0, 0, 0, 0, 0, 0, 0, 0, 0, 0, 0, 0, 0, 0, 0, 0, 0, 0, 0, 0, 0, 0, 0, 0, 0, 0, 0, 0, 0, 0, 0, 0, 0, 0, 0, 0, 0, 0, 0, 0, 0, 0, 0, 0, 0, 0, 0, 0, 0, 0, 0, 0, 0, 0, 0, 0, 0, 0, 0, 0, 0, 0, 0, 0, 0, 0, 0, 0, 0, 0, 0, 0, 0, 0, 0, 0, 0, 0, 0, 0, 0, 0, 0, 0, 0, 0, 0, 0, 0, 0, 0, 0, 0, 0, 0, 0, 0, 0, 0, 0, 0, 0, 0, 0, 0, 0, 0, 0, 0, 0]) (by kernel_rfl) (Lib.tabIs_of_head (g := 0) (by kernel_rfl) (by kernel_rfl) Tryz.underlying255 Tryz.underlying5 (by kernel_rfl) (by kernel_rfl) (laidMet.tail (laidMet.tail (laidMet.tail (laidMet.tail (laidMet.tail (laidMet.tail (laidMet.tail h))))))))
  exact (glob_cons f5 (glob_cons f0 (glob_cons f1 (glob_cons f2 glob_none'))))
set_option maxRecDepth 100000 in
theorem lifted (os : Os) (started : os.Started) (H : Type) (enc : TypeId × Value → H) :
    ReturnsInHanded {} Tryz.checked os 5 .any (fun w args => (Rows.isoOrderSpec.pre enc Tryz.prog Tryz.f5 [] false w args ∧ laidMetH Tryz.prog Rows.isoOrderRow.laid w) ∧ sizedMet enc Tryz.prog Tryz.f5 (OpenSpec.ofChange Rows.isoOrderSpec) false w args)
      (Rows.isoOrderSpec.post enc Tryz.prog Tryz.f5 false true false false) := by
  refine returnsInHanded_of_change_and (C := Tryz.checked) (X := fun w _ => laidMetH Tryz.prog Rows.isoOrderRow.laid w) (fun _ _ _ hh h => h.of_heap hh) own started (by kernel_rfl) Tryz.func5
    (ChangeSpec.witness_shaped (enc := enc) (C := Tryz.checked) (os := os) (X := fun w _ => laidMetH Tryz.prog Rows.isoOrderRow.laid w) false (World.laidAll Tryz.prog os Rows.isoOrderRow.laid) #[.slice none 0 0, .int .u8 0] 8 (World.laidAll_os _ _ _) (World.shaped_of_ZipB (by kernel_rfl) (by kernel_rfl)) (by kernel_rfl) (by kernel_rfl) (by kernel_rfl) (by rw [MakeChecks.laidMetH_plain _ _ _ (by kernel_rfl)]; exact laidMet_laidAll _ (by kernel_rfl) (by kernel_rfl))) ?_
  intro W base args ds gs before hval hW _ _ hL _
  exact law_call (P := Tryz.prog) (g := 5) (tb := Tryz.f5.resultTypes.getD 0 0) laidOut bursarlaw19_IsoOrder.row_ok (told hL) (by kernel_rfl) (fun a => by kernel_rfl) (by kernel_rfl) (by kernel_rfl) rfl
    (fun ds h => match ds, h with | [_, _], _ => ⟨rfl, rfl, rfl⟩) (fun a ha => IsoOrder_is a (fun f hf => (ha.1.2 f hf).1) (bounds8o ha.2)) hval hW
set_option maxRecDepth 100000 in
theorem over : Rows.isoOrderRow.holds Tryz.pinned (OpenSpec.ofChange Rows.isoOrderSpec) :=
  OpenClaim.holds_of_wide 5 Tryz.f5 rfl rfl rfl rfl rfl rfl rfl ⟨rfl, rfl, rfl, rfl, rfl⟩ rfl rfl rfl rfl rfl (by kernel_rfl) Tryz.func5 (by kernel_rfl)
    (of_decide_eq_true (by kernel_rfl)) (by unfold Func.isWrapper; first | (rw [if_pos (by decide +kernel)]; kernel_rfl) | (rw [if_neg (by decide +kernel)]; exact ⟨rfl, rfl⟩))
    (fun os started H enc _ => lifted os started H enc)
theorem plainParams : (Tryz.f5.params.toList.all fun t => !(Tryz.prog.wantsStandIn t)) = true := by kernel_rfl
theorem card : Rows.IsoOrderCardSaid :=
  Claim7.holds_tied_plain_at .later [] [.data, .data, .data, .data, .sentinel, .sentinel, .listed, .data, .pinned] true (true, "aa1183bf45979e82b1d0bdeed31e41784fb778d6ed6da54982652afad293440d") true
    over (fun _ h => by cases h) (by kernel_rfl) (fun _ h => by cases h) isoOrder_row_tie rfl ⟨rfl, rfl⟩ (by kernel_rfl) rfl
    (fun f fn hf hfn => by
      obtain rfl : f = 5 := Option.some.inj ((show Tryz.prog.funcNamed "bursar/bursarlaw19.IsoOrder" = some 5 by kernel_rfl).symm.trans hf) |>.symm
      obtain rfl : fn = Tryz.f5 := (Option.some.inj (Tryz.func5.symm.trans hfn)).symm
      exact ⟨by kernel_rfl, fun j t ht => by
        have h := List.all_eq_true.1 plainParams t (by rw [← Array.getElem?_toList] at ht; exact List.mem_of_getElem? ht)
        exact (show Tryz.prog.wantsStandIn t = false by simpa using h)⟩)
    (by kernel_rfl)
end Go.Proofs.YtkgnhjmbnmaboaaGreatDoor.isoOrder
namespace Go.Proofs.YtkgnhjmbnmaboaaGreatDoor
/-- The given statement. -/
theorem isoOrder_holds : Rows.IsoOrderCardSaid := isoOrder.card
#print axioms isoOrder_holds
end Go.Proofs.YtkgnhjmbnmaboaaGreatDoor
end
