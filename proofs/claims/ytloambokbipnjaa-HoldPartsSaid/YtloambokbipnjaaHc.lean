/- Holds: sound digits, accounts, sums. By this session. -/
import Derived.Test.YtloambokbipnjaaHb
import Derived.Laws.Externs
set_option linter.unusedVariables false
set_option linter.unusedSimpArgs false
namespace Go.Proofs.Ytloambokbipnjaa
open Go Go.Fw
noncomputable abbrev H2 : HK := hk P G0 E0 (tab [allRow, sumRow]) noLoops 0
theorem h2 : HKOK P H2 := hk_ok (fun g f h => by cases h) (tab_ok (by
  intro w hw
  simp only [List.mem_cons, List.not_mem_nil, or_false] at hw
  rcases hw with rfl | rfl
  · exact all_row
  · exact sum_row)) (fun g n => noLoops_ok g n) 0
theorem sound_tree (s : ByteArray) : pcallK P H2 (noLoops 0) 51 [.s s] some = (cond (Decidable.decide (GE.ge (@Nat.cast Int _ (ByteArray.size s)) (2))) (cond (Nat.ble (ByteArray.size s) (4611686018427387904)) (cond (Go.Proofs.Ytloambokbipnjaa.allB s) (cond (Nat.ble (ByteArray.size s) (4611686018427387904)) (some (D.b (BEq.beq (Int.tmod (Go.Proofs.Ytloambokbipnjaa.luhn s) (10)) (0)))) none) (some (D.b (false)))) none) (some (D.b (false)))) := by kernel_rfl
theorem until_tree (n : Int) : pcallK P H0 (noLoops 0) 34 [.i .i64 n] some = (cond (Decidable.decide (GE.ge n (0))) (some (D.b (Decidable.decide (LE.le n (2147483647))))) (some (D.b (false)))) := by kernel_rfl
def soundB (s : ByteArray) : Bool := decide ((s.size : Int) ≥ 2) && (allB s && ((luhn s).tmod 10 == 0))
def soundRow : Row := ⟨51, fun ds => match ds with
  | [.s s] => some (Nat.ble s.size 4611686018427387904, .b (soundB s))
  | _ => none⟩
theorem sound_row : RowOK P G0 soundRow := by
  intro ds q h
  simp only [soundRow] at h
  split at h
  · rename_i s
    injection h with h
    injection h with h1 h3
    subst h3
    refine row_nl h2 51 ?_
    rw [sound_tree, h1, soundB]
    cases decide ((s.size : Int) ≥ 2) <;> cases allB s <;> rfl
  · cases h
def untilB (n : Int) : Bool := decide (n ≥ 0) && decide (n ≤ 2147483647)
def untilRow : Row := ⟨34, fun ds => match ds with
  | [.i .i64 n] => some (true, .b (untilB n))
  | _ => none⟩
theorem until_row : RowOK P G0 untilRow := by
  intro ds q h
  simp only [untilRow] at h
  split at h
  · rename_i n
    injection h with h
    injection h with h1 h3
    subst h3
    refine row_nl h0 34 ?_
    rw [until_tree, untilB]
    cases decide (n ≥ 0) <;> rfl
  · cases h
noncomputable abbrev H3 : HK := hk P G0 E0 (tab [allRow, soundRow]) noLoops 0
theorem h3 : HKOK P H3 := hk_ok (fun g f h => by cases h) (tab_ok (by
  intro w hw
  simp only [List.mem_cons, List.not_mem_nil, or_false] at hw
  rcases hw with rfl | rfl
  · exact all_row
  · exact sound_row)) (fun g n => noLoops_ok g n) 0
theorem acc_tree (k : Int) (s : ByteArray) : pcallK P H3 (noLoops 0) 43 [.ag [.i .i64 k, .s s]] some = (cond (BEq.beq k (1)) (cond (BEq.beq (@Nat.cast Int _ (ByteArray.size s)) (16)) (cond (Nat.ble (ByteArray.size s) (4611686018427387904)) (some (D.b (Go.Proofs.Ytloambokbipnjaa.soundB s))) none) (some (D.b (false)))) (cond (BEq.beq k (2)) (cond (BEq.beq (@Nat.cast Int _ (ByteArray.size s)) (6)) (cond (Nat.ble (ByteArray.size s) (4611686018427387904)) (some (D.b (Go.Proofs.Ytloambokbipnjaa.allB s))) none) (some (D.b (false)))) (cond (BEq.beq k (3)) (cond (BEq.beq k (3)) (some (D.b (BEq.beq (ByteArray.toList s) (ByteArray.toList (ByteArray.mk (List.toArray List.nil)))))) (some (D.b (false)))) (cond (BEq.beq k (4)) (some (D.b (BEq.beq (ByteArray.toList s) (ByteArray.toList (ByteArray.mk (List.toArray List.nil)))))) (some (D.b (false))))))) := by kernel_rfl
def accB (k : Int) (s : ByteArray) : Bool := bif k == 1 then ((s.size : Int) == 16) && soundB s else bif k == 2 then ((s.size : Int) == 6) && allB s else (k == 3 || k == 4) && (s.toList == (ByteArray.mk (List.toArray [])).toList)
def accRow : Row := ⟨43, fun ds => match ds with
  | [.ag [.i .i64 k, .s s]] => some (Nat.ble s.size 4611686018427387904, .b (accB k s))
  | _ => none⟩
theorem acc_row : RowOK P G0 accRow := by
  intro ds q h
  simp only [accRow] at h
  split at h
  · rename_i k s
    injection h with h
    injection h with h1 h4
    subst h4
    refine row_nl h3 43 ?_
    rw [acc_tree, h1, accB]
    cases k == 1 <;> cases k == 2 <;> cases k == 3 <;> cases k == 4 <;> cases (s.size : Int) == 16 <;> cases (s.size : Int) == 6 <;> simp
  · cases h
def add64 : List D → Option (Bool × D) := fun ds => match ds with
  | [.i .u64 x, .i .u64 y, .i .u64 c] => some (decide (0 ≤ x) && decide (0 ≤ y) && decide (0 ≤ c) && decide (c ≤ 1), .tp [.i .u64 ((x + y + c) % 18446744073709551616), .i .u64 ((x + y + c) / 18446744073709551616)])
  | _ => none
theorem add64_ok : ExtOK P 48 (bare add64) := by
  intro ds r h w I vs hsz hv
  unfold bare add64 at h
  split at h
  · rename_i b q hq
    obtain ⟨hb, h⟩ := cond_some h
    injection h with h
    subst h
    split at hq
    · rename_i x y c
      injection hq with hq
      injection hq with hq1 hq2
      subst hq2
      rw [hb] at hq1
      simp only [Bool.and_eq_true, decide_eq_true_eq] at hq1
      have e0 := hv 0 _ rfl
      have e1 := hv 1 _ rfl
      have e2 := hv 2 _ rfl
      have hvs : vs = #[.int .u64 x, .int .u64 y, .int .u64 c] := by
        have : vs = #[vs.getD 0 undef, vs.getD 1 undef, vs.getD 2 undef] := by
          apply Array.ext
          · simpa using hsz
          · intro i hi hi'
            simp at hi'
            have : i = 0 ∨ i = 1 ∨ i = 2 := by omega
            rcases this with rfl | rfl | rfl <;> simp [Array.getD_eq_getD_getElem?, Array.getElem?_eq_getElem hi]
        rw [this]
        generalize vs.getD 0 undef = a0 at e0
        generalize vs.getD 1 undef = a1 at e1
        generalize vs.getD 2 undef = a2 at e2
        cases e0; cases e1; cases e2
        rfl
      refine ⟨_, by rw [hvs, run_callFunc_extern Try.func48 (by kernel_rfl) (by kernel_rfl) (by kernel_rfl) (e := add64Entry) (by kernel_rfl), run_add64 x y c (by omega) (by omega) (by omega) (by omega)]; rfl, ?_⟩
      refine .tp _ _ rfl fun j d hj => ?_
      match j, hj with
      | 0, hj => simp at hj; subst hj; exact .i _ _
      | 1, hj => simp at hj; subst hj; exact .i _ _
      | j + 2, hj => simp at hj
    · cases hq
  · cases h
abbrev E1 : FuncId → Option (List D → Option (Bool × D)) := fun g => match g with
  | 48 => some add64
  | _ => none
theorem e1 : ∀ g f, E1 g = some f → ExtOK P g (bare f) := by
  intro g f h
  unfold E1 at h
  split at h
  · injection h with h
    subst h
    exact add64_ok
  · cases h
noncomputable abbrev H4 : HK := hk P G0 E1 (tab []) noLoops 0
theorem h4 : HKOK P H4 := hk_ok e1 (tab_ok (by simp)) (fun g n => noLoops_ok g n) 0
end Go.Proofs.Ytloambokbipnjaa
