/- Holds: references, digits. By this session. -/
import Derived.Test.YtloambokbipnjaaGg
import Derived.Test.YtloambokbipnjaaProg
import Derived.KernelRfl
set_option linter.unusedVariables false
set_option linter.unusedSimpArgs false
namespace Go.Proofs.Ytloambokbipnjaa
open Go Go.Fw
noncomputable abbrev P := Try.prog
abbrev G0 : Nat → Option (List D) := fun _ => none
abbrev E0 : FuncId → Option (List D → Option (Bool × D)) := fun _ => none
noncomputable abbrev H0 : HK := hk P G0 E0 (tab []) noLoops 0
theorem h0 : HKOK P H0 := hk_ok (fun g f h => by cases h) (tab_ok (by simp)) (fun g n => noLoops_ok g n) 0
abbrev lim : Nat := 4611686018427387904

/-- an octet of a text, as a number -/
abbrev chr (s : ByteArray) (i : Nat) : Int := ((s.data.toList.getD i 0).toNat : Int)
theorem drop_chr {s : ByteArray} {i : Nat} (h : i < s.size) : s.data.toList.drop i = s.data.toList.getD i 0 :: s.data.toList.drop (i + 1) := by
  have hl : i < s.data.toList.length := by rw [Array.length_toList]; exact h
  rw [List.drop_eq_getElem_cons hl]
  simp [List.getD_eq_getElem?_getD, List.getElem?_eq_getElem hl]
theorem drop_end {s : ByteArray} {i : Nat} (h : s.size ≤ i) : s.data.toList.drop i = [] := List.drop_eq_nil_of_le (by rw [Array.length_toList]; exact h)
theorem wrap_i64 {n : Int} (h1 : -9223372036854775808 ≤ n) (h2 : n ≤ 9223372036854775807) : IntKind.wrap .i64 n = n := by
  show (if (true && decide (n % 18446744073709551616 ≥ 9223372036854775808)) = true then n % 18446744073709551616 - 18446744073709551616 else n % 18446744073709551616) = n
  by_cases h : n % 18446744073709551616 ≥ 9223372036854775808
  · rw [decide_eq_true h, Bool.true_and, if_pos rfl]; omega
  · rw [decide_eq_false h, Bool.true_and, if_neg (by simp)]; omega

/-! ### rounds over a text's octets -/
abbrev kpS : Keep
  | .n => ([0, 2, 6, 7], [])
  | .ret => ([2], [])
  | .exit _ => ([0], [])
abbrev refS (s : ByteArray) (i : Int) : St := ⟨[(0, .d (.s s)), (2, .d (.b false)), (6, .d (.i .i64 s.size)), (7, .d (.i .i64 i))], 0, []⟩
theorem ref_turn (s : ByteArray) (i : Int) : evK P H0 (noLoops 0) (bodyOf P 42 0) 0 (refS s i) (endK 0 kpS) = (cond (Decidable.decide (LT.lt i (@Nat.cast Int _ (ByteArray.size s)))) (cond (Bool.and (Decidable.decide (LE.le (0) i)) (Decidable.decide (LT.lt i (@Nat.cast Int _ (ByteArray.size s))))) (cond (Decidable.decide (LT.lt (@Nat.cast Int _ (UInt8.toNat (List.getD (Array.toList (ByteArray.data s)) (Int.toNat i) (0)))) (48))) (cond (Decidable.decide (LT.lt (@Nat.cast Int _ (UInt8.toNat (List.getD (Array.toList (ByteArray.data s)) (Int.toNat i) (0)))) (65))) (some (X.ret, (St.mk [((2), (V.d (D.b (false))))] (0) []))) (cond (Decidable.decide (GT.gt (@Nat.cast Int _ (UInt8.toNat (List.getD (Array.toList (ByteArray.data s)) (Int.toNat i) (0)))) (90))) (some (X.ret, (St.mk [((2), (V.d (D.b (false))))] (0) []))) (some (X.n, (St.mk [((0), (V.d (D.s (s)))), ((2), (V.d (D.b (false)))), ((6), (V.d (D.i Go.IntKind.i64 (@Nat.cast Int _ (ByteArray.size s))))), ((7), (V.d (D.i Go.IntKind.i64 (Go.IntKind.wrap Go.IntKind.i64 (HAdd.hAdd i (1))))))] (0) []))))) (cond (Decidable.decide (GT.gt (@Nat.cast Int _ (UInt8.toNat (List.getD (Array.toList (ByteArray.data s)) (Int.toNat i) (0)))) (57))) (cond (Decidable.decide (LT.lt (@Nat.cast Int _ (UInt8.toNat (List.getD (Array.toList (ByteArray.data s)) (Int.toNat i) (0)))) (65))) (some (X.ret, (St.mk [((2), (V.d (D.b (false))))] (0) []))) (cond (Decidable.decide (GT.gt (@Nat.cast Int _ (UInt8.toNat (List.getD (Array.toList (ByteArray.data s)) (Int.toNat i) (0)))) (90))) (some (X.ret, (St.mk [((2), (V.d (D.b (false))))] (0) []))) (some (X.n, (St.mk [((0), (V.d (D.s (s)))), ((2), (V.d (D.b (false)))), ((6), (V.d (D.i Go.IntKind.i64 (@Nat.cast Int _ (ByteArray.size s))))), ((7), (V.d (D.i Go.IntKind.i64 (Go.IntKind.wrap Go.IntKind.i64 (HAdd.hAdd i (1))))))] (0) []))))) (some (X.n, (St.mk [((0), (V.d (D.s (s)))), ((2), (V.d (D.b (false)))), ((6), (V.d (D.i Go.IntKind.i64 (@Nat.cast Int _ (ByteArray.size s))))), ((7), (V.d (D.i Go.IntKind.i64 (Go.IntKind.wrap Go.IntKind.i64 (HAdd.hAdd i (1))))))] (0) []))))) none) (some ((X.exit (0)), (St.mk [((0), (V.d (D.s (s))))] (0) [])))) := by kernel_rfl
def refC (c : UInt8) : Bool := decide (48 ≤ c.toNat ∧ c.toNat ≤ 57 ∨ 65 ≤ c.toNat ∧ c.toNat ≤ 90)
def refE (s : ByteArray) (i : Nat) : X × St := bif (s.data.toList.drop i).all refC then (.exit 0, ⟨[(0, .d (.s s))], 0, []⟩) else (.ret, ⟨[(2, .d (.b false))], 0, []⟩)
theorem ref_code : okCode (ntOf P 42) (bodyOf P 42 0) = true := by kernel_rfl
theorem ref_flat : loops (bodyOf P 42 0) = 0 := by kernel_rfl
theorem ref_loop (s : ByteArray) (hs : s.size ≤ 4611686018427387904) (k : Nat) : ∀ i : Nat, i + k = s.size → LoopN P G0 (ntOf P 42) 0 (bodyOf P 42 0) (refS s i) (refE s i) := by
  induction k with
  | zero =>
    intro i hi
    have h1 : ¬ (i : Int) < (s.size : Int) := by omega
    have ht := ref_turn s i
    simp only [h1, decide_false, cond_false] at ht
    unfold refE
    rw [drop_end (by omega)]
    exact LoopN.out (turn0 h0 kpS ref_flat ref_code ht) (by simp)
  | succ k ih =>
    intro i hi
    have h1 : (i : Int) < (s.size : Int) := by omega
    have h2 : (0 : Int) ≤ i := by omega
    have h3 : IntKind.wrap .i64 ((i : Int) + 1) = ((i + 1 : Nat) : Int) := wrap_i64 (by omega) (by omega)
    have ht := ref_turn s i
    obtain ⟨c, hcd⟩ : ∃ c, s.data.toList.getD (Int.toNat (i : Int)) 0 = c := ⟨_, rfl⟩
    rw [hcd] at ht
    rw [Int.toNat_natCast] at hcd
    simp only [h1, h2, h3, decide_true, cond_true, Bool.and_true] at ht
    have hn := ih (i + 1) (by omega)
    unfold refE at hn ⊢
    rw [drop_chr (by omega), List.all_cons]
    rw [hcd]
    by_cases hc : refC c = true
    · rw [hc, Bool.true_and]
      refine LoopN.next (turn0 h0 kpS ref_flat ref_code ?_) hn
      rw [ht]
      simp only [refC, decide_eq_true_eq] at hc
      by_cases a1 : (c.toNat : Int) < 48 <;> by_cases a2 : (c.toNat : Int) < 65 <;> by_cases a3 : (c.toNat : Int) > 57 <;> by_cases a4 : (c.toNat : Int) > 90 <;> first | omega | simp only [a1, a2, a3, a4, decide_true, decide_false, cond_true, cond_false]
    · rw [Bool.eq_false_iff.mpr hc, Bool.false_and, cond_false]
      refine LoopN.out (turn0 h0 kpS ref_flat ref_code ?_) (by simp)
      rw [ht]
      simp only [refC, decide_eq_true_eq] at hc
      by_cases a1 : (c.toNat : Int) < 48 <;> by_cases a2 : (c.toNat : Int) < 65 <;> by_cases a3 : (c.toNat : Int) > 57 <;> by_cases a4 : (c.toNat : Int) > 90 <;> first | omega | simp only [a1, a2, a3, a4, decide_true, decide_false, cond_true, cond_false]
noncomputable def refL (st : St) {α : Type} (K : X → St → Option α) : Option α := match st with
  | ⟨[(0, .d (.s s)), (2, .d (.b false)), (6, .d (.i .i64 l)), (7, .d (.i .i64 i))], 0, []⟩ => bif decide (l = s.size) && decide (i = 0) && Nat.ble s.size 4611686018427387904 then
      (bif s.data.toList.all refC then K (.exit 0) ⟨[(0, .d (.s s))], 0, []⟩ else K .ret ⟨[(2, .d (.b false))], 0, []⟩) else none
  | _ => none
theorem ref_is : LoopIs P G0 0 42 0 refL := by
  intro st α K r h
  unfold refL at h
  split at h
  · rename_i s l i
    obtain ⟨hc, hk⟩ := cond_some h
    simp only [Bool.and_eq_true, decide_eq_true_eq] at hc
    obtain ⟨⟨rfl, rfl⟩, hs⟩ := hc
    have hl := ref_loop s (Nat.le_of_ble_eq_true hs) s.size 0 (by omega)
    unfold refE at hl
    rw [List.drop_zero] at hl
    cases ha : s.data.toList.all refC <;> rw [ha] at hk hl
    · exact ⟨_, _, hl, hk⟩
    · exact ⟨_, _, hl, hk⟩
  · cases h
noncomputable def ref_lp : Loops
  | 0, st, _, K => keepK 0 [0, 2, 6, 7] [] st fun st0 => refL st0 K
  | _ + 1, _, _, _ => none
theorem ref_lps : LoopsOf P G0 0 ref_lp 42 := loopsOf fun k => match k with
  | 0 => loopIs_keep ref_is _ _
  | _ + 1 => loopIs_none
theorem ref_tree (s : ByteArray) : pcallK P H0 ref_lp 42 [.s s] some = (cond (Bool.and (Bool.and (Decidable.decide (Eq (@Nat.cast Int _ (ByteArray.size s)) (@Nat.cast Int _ (ByteArray.size s)))) (Decidable.decide (Eq (0) (0)))) (Nat.ble (ByteArray.size s) (4611686018427387904))) (cond (List.all (Array.toList (ByteArray.data s)) Go.Proofs.Ytloambokbipnjaa.refC) (some (D.b (BEq.beq (@Nat.cast Int _ (ByteArray.size s)) (12)))) (some (D.b (false)))) none) := by kernel_rfl
def refB (s : ByteArray) : Bool := s.data.toList.all refC && ((s.size : Int) == 12)
def refRow : Row := ⟨42, fun ds => match ds with
  | [.s s] => some (Nat.ble s.size 4611686018427387904, .b (refB s))
  | _ => none⟩
theorem ref_row : RowOK P G0 refRow := by
  intro ds q h
  simp only [refRow] at h
  split at h
  · rename_i s
    injection h with h
    injection h with h1 h2
    subst h2
    refine row_of h0 ref_lps ?_
    rw [ref_tree, h1, refB]
    cases s.data.toList.all refC <;> simp
  · cases h
end Go.Proofs.Ytloambokbipnjaa
