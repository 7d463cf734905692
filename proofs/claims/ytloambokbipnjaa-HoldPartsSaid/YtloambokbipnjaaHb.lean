/- Holds: digits and their sums; cards. By this session. -/
import Derived.Test.YtloambokbipnjaaHa
set_option linter.unusedVariables false
set_option linter.unusedSimpArgs false
namespace Go.Proofs.Ytloambokbipnjaa
open Go Go.Fw
/-! ### all digits -/
abbrev allS (s : ByteArray) (i : Int) : St := ⟨[(0, .d (.s s)), (2, .d (.b false)), (5, .d (.i .i64 s.size)), (6, .d (.i .i64 i))], 0, []⟩
abbrev kpA : Keep
  | .n => ([0, 2, 5, 6], [])
  | .ret => ([2], [])
  | .exit _ => ([0], [])
theorem all_turn (s : ByteArray) (i : Int) : evK P H0 (noLoops 0) (bodyOf P 52 0) 0 (allS s i) (endK 0 kpA) = (cond (Decidable.decide (LT.lt i (@Nat.cast Int _ (ByteArray.size s)))) (cond (Bool.and (Decidable.decide (LE.le (0) i)) (Decidable.decide (LT.lt i (@Nat.cast Int _ (ByteArray.size s))))) (cond (Decidable.decide (LT.lt (@Nat.cast Int _ (UInt8.toNat (List.getD (Array.toList (ByteArray.data s)) (Int.toNat i) (0)))) (48))) (some (X.ret, (St.mk [((2), (V.d (D.b (false))))] (0) []))) (cond (Bool.and (Decidable.decide (LE.le (0) i)) (Decidable.decide (LT.lt i (@Nat.cast Int _ (ByteArray.size s))))) (cond (Decidable.decide (GT.gt (@Nat.cast Int _ (UInt8.toNat (List.getD (Array.toList (ByteArray.data s)) (Int.toNat i) (0)))) (57))) (some (X.ret, (St.mk [((2), (V.d (D.b (false))))] (0) []))) (some (X.n, (St.mk [((0), (V.d (D.s (s)))), ((2), (V.d (D.b (false)))), ((5), (V.d (D.i Go.IntKind.i64 (@Nat.cast Int _ (ByteArray.size s))))), ((6), (V.d (D.i Go.IntKind.i64 (Go.IntKind.wrap Go.IntKind.i64 (HAdd.hAdd i (1))))))] (0) [])))) none)) none) (some ((X.exit (0)), (St.mk [((0), (V.d (D.s (s))))] (0) [])))) := by kernel_rfl
def digC (c : UInt8) : Bool := decide (48 ≤ c.toNat ∧ c.toNat ≤ 57)
def allE (s : ByteArray) (i : Nat) : X × St := bif (s.data.toList.drop i).all digC then (.exit 0, ⟨[(0, .d (.s s))], 0, []⟩) else (.ret, ⟨[(2, .d (.b false))], 0, []⟩)
theorem all_code : okCode (ntOf P 52) (bodyOf P 52 0) = true := by kernel_rfl
theorem all_flat : loops (bodyOf P 52 0) = 0 := by kernel_rfl
theorem all_loop (s : ByteArray) (hs : s.size ≤ 4611686018427387904) (k : Nat) : ∀ i : Nat, i + k = s.size → LoopN P G0 (ntOf P 52) 0 (bodyOf P 52 0) (allS s i) (allE s i) := by
  induction k with
  | zero =>
    intro i hi
    have h1 : ¬ (i : Int) < (s.size : Int) := by omega
    have ht := all_turn s i
    simp only [h1, decide_false, cond_false] at ht
    unfold allE
    rw [drop_end (by omega)]
    exact LoopN.out (turn0 h0 kpA all_flat all_code ht) (by simp)
  | succ k ih =>
    intro i hi
    have h1 : (i : Int) < (s.size : Int) := by omega
    have h2 : (0 : Int) ≤ i := by omega
    have h3 : IntKind.wrap .i64 ((i : Int) + 1) = ((i + 1 : Nat) : Int) := wrap_i64 (by omega) (by omega)
    have ht := all_turn s i
    obtain ⟨c, hcd⟩ : ∃ c, s.data.toList.getD (Int.toNat (i : Int)) 0 = c := ⟨_, rfl⟩
    rw [hcd] at ht
    rw [Int.toNat_natCast] at hcd
    simp only [h1, h2, h3, decide_true, cond_true, Bool.and_true] at ht
    have hn := ih (i + 1) (by omega)
    unfold allE at hn ⊢
    rw [drop_chr (by omega), List.all_cons]
    rw [hcd]
    by_cases hc : digC c = true
    · rw [hc, Bool.true_and]
      refine LoopN.next (turn0 h0 kpA all_flat all_code ?_) hn
      rw [ht]
      simp only [digC, decide_eq_true_eq] at hc
      by_cases a1 : (c.toNat : Int) < 48 <;> by_cases a3 : (c.toNat : Int) > 57 <;> first | omega | simp only [a1, a3, decide_true, decide_false, cond_true, cond_false]
    · rw [Bool.eq_false_iff.mpr hc, Bool.false_and, cond_false]
      refine LoopN.out (turn0 h0 kpA all_flat all_code ?_) (by simp)
      rw [ht]
      simp only [digC, decide_eq_true_eq] at hc
      by_cases a1 : (c.toNat : Int) < 48 <;> by_cases a3 : (c.toNat : Int) > 57 <;> first | omega | simp only [a1, a3, decide_true, decide_false, cond_true, cond_false]
noncomputable def allL (st : St) {α : Type} (K : X → St → Option α) : Option α := match st with
  | ⟨[(0, .d (.s s)), (2, .d (.b false)), (5, .d (.i .i64 l)), (6, .d (.i .i64 i))], 0, []⟩ => bif decide (l = s.size) && decide (i = 0) && Nat.ble s.size 4611686018427387904 then
      (bif s.data.toList.all digC then K (.exit 0) ⟨[(0, .d (.s s))], 0, []⟩ else K .ret ⟨[(2, .d (.b false))], 0, []⟩) else none
  | _ => none
theorem all_is : LoopIs P G0 0 52 0 allL := by
  intro st α K r h
  unfold allL at h
  split at h
  · rename_i s l i
    obtain ⟨hc, hk⟩ := cond_some h
    simp only [Bool.and_eq_true, decide_eq_true_eq] at hc
    obtain ⟨⟨rfl, rfl⟩, hs⟩ := hc
    have hl := all_loop s (Nat.le_of_ble_eq_true hs) s.size 0 (by omega)
    unfold allE at hl
    rw [List.drop_zero] at hl
    cases ha : s.data.toList.all digC <;> rw [ha] at hk hl
    · exact ⟨_, _, hl, hk⟩
    · exact ⟨_, _, hl, hk⟩
  · cases h
noncomputable def all_lp : Loops
  | 0, st, _, K => keepK 0 [0, 2, 5, 6] [] st fun st0 => allL st0 K
  | _ + 1, _, _, _ => none
theorem all_lps : LoopsOf P G0 0 all_lp 52 := loopsOf fun k => match k with
  | 0 => loopIs_keep all_is _ _
  | _ + 1 => loopIs_none
theorem all_tree (s : ByteArray) : pcallK P H0 all_lp 52 [.s s] some = (cond (Bool.and (Bool.and (Decidable.decide (Eq (@Nat.cast Int _ (ByteArray.size s)) (@Nat.cast Int _ (ByteArray.size s)))) (Decidable.decide (Eq (0) (0)))) (Nat.ble (ByteArray.size s) (4611686018427387904))) (cond (List.all (Array.toList (ByteArray.data s)) Go.Proofs.Ytloambokbipnjaa.digC) (some (D.b (true))) (some (D.b (false)))) none) := by kernel_rfl
def allB (s : ByteArray) : Bool := s.data.toList.all digC
def allRow : Row := ⟨52, fun ds => match ds with
  | [.s s] => some (Nat.ble s.size 4611686018427387904, .b (allB s))
  | _ => none⟩
theorem all_row : RowOK P G0 allRow := by
  intro ds q h
  simp only [allRow] at h
  split at h
  · rename_i s
    injection h with h
    injection h with h1 h2
    subst h2
    refine row_of h0 all_lps ?_
    rw [all_tree, h1, allB]
    cases s.data.toList.all digC <;> simp
  · cases h
/-! ### the sum -/
theorem dbl_tree (d : Int) : pcallK P H0 (noLoops 0) 71 [.i .i64 d] some = (some (D.i Go.IntKind.i64 (Go.IntKind.wrap Go.IntKind.i64 (HSub.hSub (Go.IntKind.wrap Go.IntKind.i64 (HMul.hMul (2) d)) (Go.IntKind.wrap Go.IntKind.i64 (HMul.hMul (9) (Go.IntKind.wrap Go.IntKind.i64 (Int.tdiv d (5))))))))) := by kernel_rfl
def dbl (d : Int) : Int := IntKind.wrap .i64 (IntKind.wrap .i64 (2 * d) - IntKind.wrap .i64 (9 * IntKind.wrap .i64 (d.tdiv 5)))
def dblRow : Row := ⟨71, fun ds => match ds with
  | [.i .i64 d] => some (true, .i .i64 (dbl d))
  | _ => none⟩
theorem dbl_row : RowOK P G0 dblRow := by
  intro ds q h
  simp only [dblRow] at h
  split at h
  · rename_i d
    injection h with h
    injection h with h1 h2
    subst h2
    exact row_of h0 (noLoops_ok _ _) (dbl_tree d)
  · cases h
noncomputable abbrev H1 : HK := hk P G0 E0 (tab [dblRow]) noLoops 0
theorem h1 : HKOK P H1 := hk_ok (fun g f h => by cases h) (tab_ok (by simp only [List.mem_singleton, forall_eq]; exact dbl_row)) (fun g n => noLoops_ok g n) 0
abbrev sumS (s : ByteArray) (i n : Int) : St := ⟨[(0, .d (.s s)), (3, .d (.fn 71 [])), (4, .d (.i .i64 n)), (8, .d (.i .i64 s.size)), (9, .d (.i .i64 i))], 0, []⟩
abbrev kpU : Keep
  | .n => ([0, 3, 4, 8, 9], [])
  | .ret => ([2], [])
  | .exit _ => ([4], [])
theorem sum_turn (s : ByteArray) (i n : Int) : evK P H1 (noLoops 0) (bodyOf P 59 0) 0 (sumS s i n) (endK 0 kpU) = (cond (Decidable.decide (LT.lt i (@Nat.cast Int _ (ByteArray.size s)))) (cond (Bool.and (Decidable.decide (LE.le (0) (Go.IntKind.wrap Go.IntKind.i64 (HSub.hSub (Go.IntKind.wrap Go.IntKind.i64 (HSub.hSub (@Nat.cast Int _ (ByteArray.size s)) (1))) i)))) (Decidable.decide (LT.lt (Go.IntKind.wrap Go.IntKind.i64 (HSub.hSub (Go.IntKind.wrap Go.IntKind.i64 (HSub.hSub (@Nat.cast Int _ (ByteArray.size s)) (1))) i)) (@Nat.cast Int _ (ByteArray.size s))))) (cond (BEq.beq (Int.tmod i (2)) (1)) (some (X.n, (St.mk [((0), (V.d (D.s (s)))), ((3), (V.d (D.fn (71) []))), ((4), (V.d (D.i Go.IntKind.i64 (Go.IntKind.wrap Go.IntKind.i64 (HAdd.hAdd n (Go.Proofs.Ytloambokbipnjaa.dbl (Go.IntKind.wrap Go.IntKind.i64 (Go.IntKind.wrap Go.IntKind.u8 (HSub.hSub (@Nat.cast Int _ (UInt8.toNat (List.getD (Array.toList (ByteArray.data s)) (Int.toNat (Go.IntKind.wrap Go.IntKind.i64 (HSub.hSub (Go.IntKind.wrap Go.IntKind.i64 (HSub.hSub (@Nat.cast Int _ (ByteArray.size s)) (1))) i))) (0)))) (48)))))))))), ((8), (V.d (D.i Go.IntKind.i64 (@Nat.cast Int _ (ByteArray.size s))))), ((9), (V.d (D.i Go.IntKind.i64 (Go.IntKind.wrap Go.IntKind.i64 (HAdd.hAdd i (1))))))] (0) []))) (some (X.n, (St.mk [((0), (V.d (D.s (s)))), ((3), (V.d (D.fn (71) []))), ((4), (V.d (D.i Go.IntKind.i64 (Go.IntKind.wrap Go.IntKind.i64 (HAdd.hAdd n (Go.IntKind.wrap Go.IntKind.i64 (Go.IntKind.wrap Go.IntKind.u8 (HSub.hSub (@Nat.cast Int _ (UInt8.toNat (List.getD (Array.toList (ByteArray.data s)) (Int.toNat (Go.IntKind.wrap Go.IntKind.i64 (HSub.hSub (Go.IntKind.wrap Go.IntKind.i64 (HSub.hSub (@Nat.cast Int _ (ByteArray.size s)) (1))) i))) (0)))) (48))))))))), ((8), (V.d (D.i Go.IntKind.i64 (@Nat.cast Int _ (ByteArray.size s))))), ((9), (V.d (D.i Go.IntKind.i64 (Go.IntKind.wrap Go.IntKind.i64 (HAdd.hAdd i (1))))))] (0) [])))) none) (some ((X.exit (0)), (St.mk [((4), (V.d (D.i Go.IntKind.i64 (n))))] (0) [])))) := by kernel_rfl
def dig (s : ByteArray) (j : Nat) : Int := IntKind.wrap .i64 (IntKind.wrap .u8 (((s.data.toList.getD j 0).toNat : Int) - 48))
def sumStep (s : ByteArray) (i : Nat) (n : Int) : Int := IntKind.wrap .i64 (n + bif (i : Int).tmod 2 == 1 then dbl (dig s (s.size - 1 - i)) else dig s (s.size - 1 - i))
def sumIt (s : ByteArray) : Nat → Nat → Int → Int
  | 0, _, n => n
  | k + 1, i, n => sumIt s k (i + 1) (sumStep s i n)
theorem sum_code : okCode (ntOf P 59) (bodyOf P 59 0) = true := by kernel_rfl
theorem sum_flat : loops (bodyOf P 59 0) = 0 := by kernel_rfl
theorem sum_loop (s : ByteArray) (hs : s.size ≤ 4611686018427387904) (k : Nat) : ∀ (i : Nat) (n : Int), i + k = s.size → LoopN P G0 (ntOf P 59) 0 (bodyOf P 59 0) (sumS s i n) (.exit 0, ⟨[(4, .d (.i .i64 (sumIt s k i n)))], 0, []⟩) := by
  induction k with
  | zero =>
    intro i n hi
    have g1 : ¬ (i : Int) < (s.size : Int) := by omega
    have ht := sum_turn s i n
    simp only [g1, decide_false, cond_false] at ht
    exact LoopN.out (turn0 h1 kpU sum_flat sum_code ht) (by simp)
  | succ k ih =>
    intro i n hi
    have g1 : (i : Int) < (s.size : Int) := by omega
    have g3 : IntKind.wrap .i64 ((i : Int) + 1) = ((i + 1 : Nat) : Int) := wrap_i64 (by omega) (by omega)
    have g4 : IntKind.wrap .i64 (IntKind.wrap .i64 ((s.size : Int) - 1) - (i : Int)) = ((s.size - 1 - i : Nat) : Int) := by
      have e1 : IntKind.wrap .i64 ((s.size : Int) - 1) = (s.size : Int) - 1 := wrap_i64 (by omega) (by omega)
      rw [e1, wrap_i64 (by omega) (by omega)]; omega
    have g5 : (0 : Int) ≤ ((s.size - 1 - i : Nat) : Int) := by omega
    have g6 : ((s.size - 1 - i : Nat) : Int) < (s.size : Int) := by omega
    have ht := sum_turn s i n
    rw [g4] at ht
    simp only [g1, g3, g5, g6, decide_true, cond_true, Bool.and_true] at ht
    have hn := ih (i + 1) (sumStep s i n) (by omega)
    refine LoopN.next (turn0 h1 kpU sum_flat sum_code ?_) hn
    rw [ht]
    unfold sumStep dig
    cases hb : ((i : Int).tmod 2 == 1) <;> simp only [cond_true, cond_false, Int.toNat_natCast]
noncomputable def sumL (st : St) {α : Type} (K : X → St → Option α) : Option α := match st with
  | ⟨[(0, .d (.s s)), (3, .d (.fn 71 [])), (4, .d (.i .i64 n)), (8, .d (.i .i64 l)), (9, .d (.i .i64 i))], 0, []⟩ => bif decide (l = s.size) && decide (i = 0) && Nat.ble s.size 4611686018427387904 then
      K (.exit 0) ⟨[(4, .d (.i .i64 (sumIt s s.size 0 n)))], 0, []⟩ else none
  | _ => none
theorem sum_is : LoopIs P G0 0 59 0 sumL := by
  intro st α K r h
  unfold sumL at h
  split at h
  · rename_i s n l i
    obtain ⟨hc, hk⟩ := cond_some h
    simp only [Bool.and_eq_true, decide_eq_true_eq] at hc
    obtain ⟨⟨rfl, rfl⟩, hs⟩ := hc
    exact ⟨_, _, sum_loop s (Nat.le_of_ble_eq_true hs) s.size 0 n (by omega), hk⟩
  · cases h
noncomputable def sum_lp : Loops
  | 0, st, _, K => keepK 0 [0, 3, 4, 8, 9] [] st fun st0 => sumL st0 K
  | _ + 1, _, _, _ => none
theorem sum_lps : LoopsOf P G0 0 sum_lp 59 := loopsOf fun k => match k with
  | 0 => loopIs_keep sum_is _ _
  | _ + 1 => loopIs_none
theorem sum_tree (s : ByteArray) : pcallK P H1 sum_lp 59 [.s s] some = (cond (Bool.and (Bool.and (Decidable.decide (Eq (@Nat.cast Int _ (ByteArray.size s)) (@Nat.cast Int _ (ByteArray.size s)))) (Decidable.decide (Eq (0) (0)))) (Nat.ble (ByteArray.size s) (4611686018427387904))) (some (D.i Go.IntKind.i64 (Go.Proofs.Ytloambokbipnjaa.sumIt s (ByteArray.size s) (0) (0)))) none) := by kernel_rfl
def luhn (s : ByteArray) : Int := sumIt s s.size 0 0
def sumRow : Row := ⟨59, fun ds => match ds with
  | [.s s] => some (Nat.ble s.size 4611686018427387904, .i .i64 (luhn s))
  | _ => none⟩
theorem sum_row : RowOK P G0 sumRow := by
  intro ds q h
  simp only [sumRow] at h
  split at h
  · rename_i s
    injection h with h
    injection h with h2 h3
    subst h3
    refine row_of h1 sum_lps ?_
    rw [sum_tree, h2, luhn]
    simp
  · cases h
end Go.Proofs.Ytloambokbipnjaa
