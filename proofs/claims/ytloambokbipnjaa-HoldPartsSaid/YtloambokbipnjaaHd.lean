/- Sums of amounts. By this session. -/
import Derived.Test.YtloambokbipnjaaHc
set_option linter.unusedVariables false
set_option linter.unusedSimpArgs false
namespace Go.Proofs.Ytloambokbipnjaa
open Go Go.Fw
abbrev ints (l : List Int) : List D := l.map (D.i .i64)
abbrev moneyS (l : List Int) (i h z : Int) : St := ⟨[(4, .d (.i .i64 h)), (5, .d (.i .u64 z)), (10, .d (.sl 1 (ints l))), (11, .d (.i .i64 l.length)), (12, .d (.i .i64 i))], 0, []⟩
abbrev kpM : Keep
  | .n => ([4, 5, 10, 11, 12], [])
  | .ret => ([2, 3], [])
  | .exit _ => ([4, 5], [])
theorem money_turn (l : List Int) (i h z : Int) : evK P H4 (noLoops 0) (bodyOf P 38 0) 0 (moneyS l i h z) (endK 0 kpM) = (cond (Decidable.decide (LT.lt i (@Nat.cast Int _ (List.length l)))) (cond (Bool.and (Decidable.decide (LE.le (0) i)) (Decidable.decide (LT.lt i (@Nat.cast Int _ (List.length (Go.Proofs.Ytloambokbipnjaa.ints l)))))) (cond (Nat.blt (0) (List.length (Go.Fw.D.cells (List.getD (Go.Proofs.Ytloambokbipnjaa.ints l) (Int.toNat i) Go.Fw.D.nsl)))) (cond (Go.Fw.isI Go.IntKind.i64 (List.getD (Go.Fw.D.cells (List.getD (Go.Proofs.Ytloambokbipnjaa.ints l) (Int.toNat i) Go.Fw.D.nsl)) (0) Go.Fw.D.nsl)) (cond (Bool.and (Bool.and (Bool.and (Decidable.decide (LE.le (0) z)) (Decidable.decide (LE.le (0) (Go.IntKind.wrap Go.IntKind.u64 (Go.Fw.iOf (List.getD (Go.Fw.D.cells (List.getD (Go.Proofs.Ytloambokbipnjaa.ints l) (Int.toNat i) Go.Fw.D.nsl)) (0) Go.Fw.D.nsl)))))) (Decidable.decide (LE.le (0) (0)))) (Decidable.decide (LE.le (0) (1)))) (some (X.n, (St.mk [((4), (V.d (D.i Go.IntKind.i64 (Go.IntKind.wrap Go.IntKind.i64 (HAdd.hAdd h (Go.IntKind.wrap Go.IntKind.i64 (HAdd.hAdd (Int.fdiv (Go.Fw.iOf (List.getD (Go.Fw.D.cells (List.getD (Go.Proofs.Ytloambokbipnjaa.ints l) (Int.toNat i) Go.Fw.D.nsl)) (0) Go.Fw.D.nsl)) (9223372036854775808)) (Go.IntKind.wrap Go.IntKind.i64 (HDiv.hDiv (HAdd.hAdd (HAdd.hAdd z (Go.IntKind.wrap Go.IntKind.u64 (Go.Fw.iOf (List.getD (Go.Fw.D.cells (List.getD (Go.Proofs.Ytloambokbipnjaa.ints l) (Int.toNat i) Go.Fw.D.nsl)) (0) Go.Fw.D.nsl)))) (0)) (18446744073709551616)))))))))), ((5), (V.d (D.i Go.IntKind.u64 (HMod.hMod (HAdd.hAdd (HAdd.hAdd z (Go.IntKind.wrap Go.IntKind.u64 (Go.Fw.iOf (List.getD (Go.Fw.D.cells (List.getD (Go.Proofs.Ytloambokbipnjaa.ints l) (Int.toNat i) Go.Fw.D.nsl)) (0) Go.Fw.D.nsl)))) (0)) (18446744073709551616))))), ((10), (V.d (D.sl (1) (Go.Proofs.Ytloambokbipnjaa.ints l)))), ((11), (V.d (D.i Go.IntKind.i64 (@Nat.cast Int _ (List.length l))))), ((12), (V.d (D.i Go.IntKind.i64 (Go.IntKind.wrap Go.IntKind.i64 (HAdd.hAdd i (1))))))] (0) []))) none) none) none) none) (some ((X.exit (0)), (St.mk [((4), (V.d (D.i Go.IntKind.i64 (h)))), ((5), (V.d (D.i Go.IntKind.u64 (z))))] (0) [])))) := by kernel_rfl
theorem money_code : okCode (ntOf P 38) (bodyOf P 38 0) = true := by kernel_rfl
theorem money_flat : loops (bodyOf P 38 0) = 0 := by kernel_rfl
theorem ints_get {l : List Int} {i : Nat} (h : i < l.length) : (ints l).getD i .nsl = .i .i64 (l.getD i 0) := by
  simp [ints, List.getD_eq_getElem?_getD, List.getElem?_eq_getElem h]
/-- the sum of the first ones -/
def upTo (l : List Int) (i : Nat) : Int := (l.take i).sum
theorem upTo_succ {l : List Int} {i : Nat} (h : i < l.length) : upTo l (i + 1) = upTo l i + l.getD i 0 := by
  unfold upTo
  rw [List.take_succ_eq_append_getElem h, List.sum_append]
  simp [List.getD_eq_getElem?_getD, List.getElem?_eq_getElem h]
/-- are they all amounts? -/
def amounts (l : List Int) : Bool := l.all fun n => decide (-9223372036854775808 ≤ n) && decide (n ≤ 9223372036854775807)
theorem amounts_get {l : List Int} (h : amounts l = true) {i : Nat} (hi : i < l.length) : -9223372036854775808 ≤ l.getD i 0 ∧ l.getD i 0 ≤ 9223372036854775807 := by
  unfold amounts at h
  rw [List.all_eq_true] at h
  have := h l[i] (List.getElem_mem hi)
  simp only [Bool.and_eq_true, decide_eq_true_eq] at this
  simpa [List.getD_eq_getElem?_getD, List.getElem?_eq_getElem hi] using this
theorem upTo_bound {l : List Int} (h : amounts l = true) : ∀ i : Nat, i ≤ l.length → -9223372036854775808 * (i : Int) ≤ upTo l i ∧ upTo l i ≤ 9223372036854775807 * (i : Int)
  | 0, _ => by simp [upTo]
  | i + 1, hi => by
    have ih := upTo_bound h i (by omega)
    have := amounts_get h (i := i) (by omega)
    rw [upTo_succ (by omega)]
    omega
theorem wrap_u64 (n : Int) : IntKind.wrap .u64 n = n % 18446744073709551616 := by
  show (if (false && decide (n % 18446744073709551616 ≥ 9223372036854775808)) = true then n % 18446744073709551616 - 18446744073709551616 else n % 18446744073709551616) = _
  simp
theorem money_loop (l : List Int) (hs : l.length ≤ 4611686018427387904) (ha : amounts l = true) (k : Nat) : ∀ i : Nat, i + k = l.length →
    LoopN P G0 (ntOf P 38) 0 (bodyOf P 38 0) (moneyS l i (upTo l i / 18446744073709551616) (upTo l i % 18446744073709551616)) (.exit 0, ⟨[(4, .d (.i .i64 (l.sum / 18446744073709551616))), (5, .d (.i .u64 (l.sum % 18446744073709551616)))], 0, []⟩) := by
  induction k with
  | zero =>
    intro i hi
    have g1 : ¬ (i : Int) < (l.length : Int) := by omega
    have ht := money_turn l i (upTo l i / 18446744073709551616) (upTo l i % 18446744073709551616)
    have e : upTo l i = l.sum := by unfold upTo; rw [List.take_of_length_le (by omega)]
    rw [e] at ht ⊢
    simp only [g1, decide_false, cond_false, ints, List.length_map] at ht
    exact LoopN.out (turn0 h4 kpM money_flat money_code ht) (by simp)
  | succ k ih =>
    intro i hi
    have g1 : (i : Int) < (l.length : Int) := by omega
    have g2 : (0 : Int) ≤ i := by omega
    have g3 : IntKind.wrap .i64 ((i : Int) + 1) = ((i + 1 : Nat) : Int) := wrap_i64 (by omega) (by omega)
    have ht := money_turn l i (upTo l i / 18446744073709551616) (upTo l i % 18446744073709551616)
    have e1 : (ints l).getD (Int.toNat (i : Int)) .nsl = .i .i64 (l.getD i 0) := by rw [Int.toNat_natCast]; exact ints_get (by omega)
    have hn := ih (i + 1) (by omega)
    refine LoopN.next (turn0 h4 kpM money_flat money_code ?_) hn
    rw [ht, e1]
    obtain ⟨hb1, hb2⟩ := upTo_bound ha i (by omega)
    obtain ⟨ha1, ha2⟩ := amounts_get ha (i := i) (by omega)
    rw [upTo_succ (by omega)]
    generalize l.getD i 0 = a at ha1 ha2 ⊢
    generalize upTo l i = T at hb1 hb2 ⊢
    have g1' : (i : Int) < ((ints l).length : Int) := by rw [List.length_map]; exact g1
    have d1 : (decide ((i : Int) < (l.length : Int))) = true := decide_eq_true g1
    have d2 : (decide ((i : Int) < ((ints l).length : Int))) = true := decide_eq_true g1'
    have d3 : decide ((0 : Int) ≤ (i : Int)) = true := decide_eq_true g2
    have d4 : decide ((0 : Int) ≤ T % 18446744073709551616) = true := decide_eq_true (by omega)
    have d5 : decide ((0 : Int) ≤ IntKind.wrap .u64 a) = true := decide_eq_true (by rw [wrap_u64]; omega)
    have c5 : (T % 18446744073709551616 + IntKind.wrap .u64 a + 0) % 18446744073709551616 = (T + a) % 18446744073709551616 := by rw [wrap_u64]; omega
    have c4 : IntKind.wrap .i64 (T / 18446744073709551616 + IntKind.wrap .i64 (Int.fdiv a 9223372036854775808 + IntKind.wrap .i64 ((T % 18446744073709551616 + IntKind.wrap .u64 a + 0) / 18446744073709551616))) = (T + a) / 18446744073709551616 := by
      rw [wrap_u64, Int.fdiv_eq_ediv_of_nonneg a (by omega)]
      have w1 : IntKind.wrap .i64 ((T % 18446744073709551616 + a % 18446744073709551616 + 0) / 18446744073709551616) = (T % 18446744073709551616 + a % 18446744073709551616 + 0) / 18446744073709551616 := wrap_i64 (by omega) (by omega)
      rw [w1]
      have w2 : IntKind.wrap .i64 (a / 9223372036854775808 + (T % 18446744073709551616 + a % 18446744073709551616 + 0) / 18446744073709551616) = a / 9223372036854775808 + (T % 18446744073709551616 + a % 18446744073709551616 + 0) / 18446744073709551616 := wrap_i64 (by omega) (by omega)
      rw [w2, wrap_i64 (by omega) (by omega)]
      omega
    show (bif decide ((i : Int) < (l.length : Int)) then (bif decide ((0 : Int) ≤ (i : Int)) && decide ((i : Int) < ((ints l).length : Int)) then (bif decide ((0 : Int) ≤ T % 18446744073709551616) && decide ((0 : Int) ≤ IntKind.wrap .u64 a) && true && true then
      some (X.n, (⟨[(4, .d (.i .i64 (IntKind.wrap .i64 (T / 18446744073709551616 + IntKind.wrap .i64 (Int.fdiv a 9223372036854775808 + IntKind.wrap .i64 ((T % 18446744073709551616 + IntKind.wrap .u64 a + 0) / 18446744073709551616)))))),
        (5, .d (.i .u64 ((T % 18446744073709551616 + IntKind.wrap .u64 a + 0) % 18446744073709551616))), (10, .d (.sl 1 (ints l))), (11, .d (.i .i64 l.length)), (12, .d (.i .i64 (IntKind.wrap .i64 ((i : Int) + 1))))], 0, []⟩ : St)) else none) else none) else _) = _
    rw [d1, d2, d3, d4, d5, c4, c5, g3]
    rfl

def allI (xs : List D) : Bool := xs.all fun x => isI .i64 x
theorem allI_ints : ∀ {xs : List D}, allI xs = true → xs = ints (xs.map iOf)
  | [], _ => rfl
  | x :: xs, h => by
    unfold allI at h
    rw [List.all_cons, Bool.and_eq_true] at h
    have ih := allI_ints (xs := xs) h.2
    cases x <;> first | (cases h.1; done) | skip
    rename_i k n
    have hk := h.1
    simp only [isI, decide_eq_true_eq] at hk
    subst hk
    rw [List.map_cons, ints, List.map_cons, ← ints, ← ih]
    rfl
theorem allI_of (l : List Int) : allI (ints l) = true := by
  simp [allI, isI]
theorem map_ints (l : List Int) : (ints l).map iOf = l := by
  rw [ints, List.map_map]
  exact (List.map_congr_left (g := id) fun _ _ => rfl).trans (List.map_id l)
def okSum (xs : List D) : Bool := allI xs && amounts (xs.map iOf) && Nat.ble xs.length 4611686018427387904
noncomputable def moneyL (st : St) {α : Type} (K : X → St → Option α) : Option α := match st with
  | ⟨[(4, .d (.i .i64 h)), (5, .d (.i .u64 z)), (10, .d (.sl 1 xs)), (11, .d (.i .i64 n)), (12, .d (.i .i64 i))], 0, []⟩ => bif decide (n = xs.length) && decide (i = 0) && decide (h = 0) && decide (z = 0) && okSum xs then
      K (.exit 0) ⟨[(4, .d (.i .i64 ((xs.map iOf).sum / 18446744073709551616))), (5, .d (.i .u64 ((xs.map iOf).sum % 18446744073709551616)))], 0, []⟩ else none
  | _ => none
theorem money_is : LoopIs P G0 0 38 0 moneyL := by
  intro st α K r h
  unfold moneyL at h
  split at h
  · rename_i hh z xs n i
    obtain ⟨hc, hk⟩ := cond_some h
    simp only [Bool.and_eq_true, decide_eq_true_eq, okSum] at hc
    obtain ⟨⟨⟨⟨rfl, rfl⟩, rfl⟩, rfl⟩, ⟨ha, hm⟩, hl⟩ := hc
    have hx := allI_ints ha
    refine ⟨_, _, ?_, hk⟩
    have := money_loop (xs.map iOf) (by rw [List.length_map]; exact Nat.le_of_ble_eq_true hl) hm (xs.map iOf).length 0 (by omega)
    have hu : upTo (xs.map iOf) 0 = 0 := rfl
    rw [hu] at this
    unfold moneyS at this
    rw [← hx, List.length_map] at this
    exact this
  · cases h
noncomputable def money_lp : Loops
  | 0, st, _, K => keepK 0 [4, 5, 10, 11, 12] [] st fun st0 => moneyL st0 K
  | _ + 1, _, _, _ => none
theorem money_lps : LoopsOf P G0 0 money_lp 38 := loopsOf fun k => match k with
  | 0 => loopIs_keep money_is _ _
  | _ + 1 => loopIs_none
theorem money_tree (xs : List D) : pcallK P H4 money_lp 38 [.sl 1 xs] some = (cond (Bool.and (Bool.and (Bool.and (Bool.and (Decidable.decide (Eq (@Nat.cast Int _ (List.length xs)) (@Nat.cast Int _ (List.length xs)))) (Decidable.decide (Eq (0) (0)))) (Decidable.decide (Eq (0) (0)))) (Decidable.decide (Eq (0) (0)))) (Go.Proofs.Ytloambokbipnjaa.okSum xs)) (cond (bne (HDiv.hDiv (List.sum (List.map Go.Fw.iOf xs)) (18446744073709551616)) (Int.fdiv (Go.IntKind.wrap Go.IntKind.i64 (HMod.hMod (List.sum (List.map Go.Fw.iOf xs)) (18446744073709551616))) (9223372036854775808))) (some (D.tp [(D.i Go.IntKind.i64 (0)), (D.i Go.IntKind.i64 (2))])) (some (D.tp [(D.i Go.IntKind.i64 (Go.IntKind.wrap Go.IntKind.i64 (HMod.hMod (List.sum (List.map Go.Fw.iOf xs)) (18446744073709551616)))), (D.i Go.IntKind.i64 (0))]))) none) := by kernel_rfl
def fits (n : Int) : Bool := decide (-9223372036854775808 ≤ n) && decide (n ≤ 9223372036854775807)
def sumD (n : Int) : D := .tp [.i .i64 (bif fits n then n else 0), .i .i64 (bif fits n then 0 else 2)]
def moneyRow : Row := ⟨38, fun ds => match ds with
  | [.sl 1 xs] => some (okSum xs, sumD (xs.map iOf).sum)
  | _ => none⟩
theorem wrap_back {n : Int} (h0 : 0 ≤ n) (h1 : n < 18446744073709551616) : IntKind.wrap .i64 n = if n ≥ 9223372036854775808 then n - 18446744073709551616 else n := by
  show (if (true && decide (n % 18446744073709551616 ≥ 9223372036854775808)) = true then n % 18446744073709551616 - 18446744073709551616 else n % 18446744073709551616) = _
  have e : n % 18446744073709551616 = n := by omega
  rw [e, Bool.true_and]
  by_cases h : n ≥ 9223372036854775808
  · rw [decide_eq_true h, if_pos rfl, if_pos h]
  · rw [decide_eq_false h, if_neg (by simp), if_neg h]
theorem money_row : RowOK P G0 moneyRow := by
  intro ds q h
  simp only [moneyRow] at h
  split at h
  · rename_i xs
    injection h with h
    injection h with h1 h2
    subst h2
    refine row_of (g := 38) h4 money_lps ?_
    rw [money_tree, h1]
    have h1' := h1
    simp only [okSum, Bool.and_eq_true] at h1'
    have hb := upTo_bound h1'.1.2 (xs.map iOf).length (Nat.le_refl _)
    have hl := Nat.le_of_ble_eq_true h1'.2
    unfold upTo at hb
    rw [List.take_of_length_le (Nat.le_refl _), List.length_map] at hb
    unfold sumD
    generalize (xs.map iOf).sum = s at hb ⊢
    have hw := wrap_back (n := s % 18446744073709551616) (by omega) (by omega)
    rw [hw, Int.fdiv_eq_ediv_of_nonneg _ (by omega)]
    have d1 : decide ((xs.length : Int) = xs.length) = true := decide_eq_true rfl
    rw [d1]
    simp only [decide_true, Bool.and_self, cond_true]
    by_cases hf : fits s = true
    · have hf' := hf
      simp only [fits, Bool.and_eq_true, decide_eq_true_eq] at hf'
      rw [hf]
      by_cases hn : s % 18446744073709551616 ≥ 9223372036854775808
      · rw [if_pos hn]
        have e : (s / 18446744073709551616 != (s % 18446744073709551616 - 18446744073709551616) / 9223372036854775808) = false := by simp; omega
        have e2 : s % 18446744073709551616 - 18446744073709551616 = s := by omega
        rw [e, e2]; rfl
      · rw [if_neg hn]
        have e : (s / 18446744073709551616 != s % 18446744073709551616 / 9223372036854775808) = false := by simp; omega
        have e2 : s % 18446744073709551616 = s := by omega
        rw [e, e2]; rfl
    · have hf' := hf
      simp only [fits, Bool.and_eq_true, decide_eq_true_eq] at hf'
      rw [Bool.eq_false_iff.mpr hf]
      by_cases hn : s % 18446744073709551616 ≥ 9223372036854775808
      · rw [if_pos hn]
        have e : (s / 18446744073709551616 != (s % 18446744073709551616 - 18446744073709551616) / 9223372036854775808) = true := by simp; omega
        rw [e]; rfl
      · rw [if_neg hn]
        have e : (s / 18446744073709551616 != s % 18446744073709551616 / 9223372036854775808) = true := by simp; omega
        rw [e]; rfl
  · cases h

noncomputable abbrev H5 : HK := hk P G0 E0 (tab [moneyRow]) noLoops 0
theorem h5 : HKOK P H5 := hk_ok (fun g f h => by cases h) (tab_ok (by simp only [List.mem_singleton, forall_eq]; exact money_row)) (fun g n => noLoops_ok g n) 0
theorem add_tree (a b : Int) : pcallK P H5 (noLoops 0) 35 [.i .i64 a, .i .i64 b] some = (cond (Go.Proofs.Ytloambokbipnjaa.okSum (List.take (2) (List.drop (0) (List.set (List.set (List.replicate (2) (Go.Fw.D.i Go.IntKind.i64 (0))) (0) (Go.Fw.D.i Go.IntKind.i64 a)) (1) (Go.Fw.D.i Go.IntKind.i64 b))))) (some (D.tp [(D.i Go.IntKind.i64 (cond (Go.Proofs.Ytloambokbipnjaa.fits (List.sum (List.map Go.Fw.iOf (List.take (2) (List.drop (0) (List.set (List.set (List.replicate (2) (Go.Fw.D.i Go.IntKind.i64 (0))) (0) (Go.Fw.D.i Go.IntKind.i64 a)) (1) (Go.Fw.D.i Go.IntKind.i64 b))))))) (List.sum (List.map Go.Fw.iOf (List.take (2) (List.drop (0) (List.set (List.set (List.replicate (2) (Go.Fw.D.i Go.IntKind.i64 (0))) (0) (Go.Fw.D.i Go.IntKind.i64 a)) (1) (Go.Fw.D.i Go.IntKind.i64 b)))))) (0))), (D.i Go.IntKind.i64 (cond (Go.Proofs.Ytloambokbipnjaa.fits (List.sum (List.map Go.Fw.iOf (List.take (2) (List.drop (0) (List.set (List.set (List.replicate (2) (Go.Fw.D.i Go.IntKind.i64 (0))) (0) (Go.Fw.D.i Go.IntKind.i64 a)) (1) (Go.Fw.D.i Go.IntKind.i64 b))))))) (0) (2)))])) none) := by kernel_rfl
def addRow : Row := ⟨35, fun ds => match ds with
  | [.i .i64 a, .i .i64 b] => some (fits a && fits b, sumD (a + b))
  | _ => none⟩
theorem add_row : RowOK P G0 addRow := by
  intro ds q h
  simp only [addRow] at h
  split at h
  · rename_i a b
    injection h with h
    injection h with h1 h2
    subst h2
    refine row_nl h5 35 ?_
    rw [add_tree]
    have e : ([D.i .i64 a, D.i .i64 b].map iOf).sum = a + b := by simp [iOf]
    have e2 : okSum [D.i .i64 a, D.i .i64 b] = true := by
      simp only [fits, Bool.and_eq_true, decide_eq_true_eq] at h1
      simp [okSum, allI, isI, iOf, amounts, h1, Nat.ble]
    have hx : List.take 2 (List.drop 0 (List.set (List.set (List.replicate 2 (D.i .i64 0)) 0 (D.i .i64 a)) 1 (D.i .i64 b))) = [D.i .i64 a, D.i .i64 b] := rfl
    rw [hx, e2, e]
    rfl
  · cases h
end Go.Proofs.Ytloambokbipnjaa