/- What any message asks is as the document says, or it is refused with its error; so is its key; sent again it asks the same. -/
import Derived.Test.YtpoiijkodpnobaaGreatDoorRows
import Derived.Test.YtpoiijkodpnobaaGreatDoorCards
import Derived.Test.YtpoiijkodpnobaaGreatDoorTie
import Derived.SevenTiedAt
import Derived.ProofKit
import Derived.LaidMore
import Derived.Lay
import Derived.MakeChecks
import Derived.Test.YtpoiijkodpnobaaGreatDoorKTradeReads5
section
set_option linter.unusedVariables false
set_option linter.unusedSimpArgs false
set_option maxHeartbeats 4000000
set_option maxRecDepth 10000
namespace Go.Proofs.YtpoiijkodpnobaaGreatDoor
open Go Go.Fw bursarref20_Read
theorem ge_one (n : Int) : decide (n ≥ 1) = !decide (n < 1) := by
  by_cases h : n < 1
  · rw [decide_eq_true h, decide_eq_false (by omega)]; rfl
  · rw [decide_eq_false h, decide_eq_true (by omega)]; rfl
theorem q1 : ((1 : Int) == 1) = true ∧ ((1 : Int) == 2) = false ∧ ((1 : Int) == 4) = false ∧ ((1 : Int) == 5) = false ∧ ((1 : Int) == 6) = false ∧ ((1 : Int) == 8) = false ∧ ((1 : Int) != 5) = true ∧ decide ((1 : Int) ≤ 6) = true ∧ decide ((1 : Int) ≤ 2) = true := by decide
theorem rread_class1 {m : Msg} {i : Nat} (hg : goodM m) (hp : (packF m).2 = 0) (hw : whose m.1 = some i) (ha : (mAt i).2.2.1 = false) (hk : (mAt i).1 = 1) :
    bursarref20_Read.f m = some (bif okT m 1 then (trT m (m.1.extract 0 3 ++ bs [48]) 1, 0) else (zT, 16)) := by
  obtain ⟨_, _, _, hok, _⟩ := packF_zero hp
  have hO : ∀ n, bursarref20_of.f (m, n) = some (fldM m n) := fun n => of_fld hg n
  have hO' : ∀ n, bursarref20_of.f ((m.1, m.2), n) = some (fldM m n) := fun n => of_fld hg n
  have hA : ∀ n, bursarref20_acq.f (fldM m n) = some (acqB (fldM m n)) := fun n => racq_is _ (by have := fld_small hg n; omega)
  have hH : bursarref20_has.f ((m.1, m.2), [(2 : Int), (3 : Int), (4 : Int), (7 : Int), (11 : Int), (32 : Int), (37 : Int)]) = some (hasM m 2 && (hasM m 3 && (hasM m 4 && (hasM m 7 && (hasM m 11 && (hasM m 32 && (hasM m 37))))))) := (has_fld hg [(2 : Int), (3 : Int), (4 : Int), (7 : Int), (11 : Int), (32 : Int), (37 : Int)] (by decide)).trans (by simp only [List.all_cons, List.all_nil, Bool.and_true])
  have h4 : m.1.size = 4 := by have := whose_len hw; simpa using this
  have d3 : decide ((3 : Int) ≤ (m.1.size : Int)) = true := decide_eq_true (by omega)
  have b3 : Nat.ble ((m.1.extract 0 3).size + 1) 9223372036854775807 = true := Nat.ble_eq_true_of_le (by rw [ByteArray.size_extract]; omega)
  have ok : okT m 1 = (hasM m 7 && (hasM m 11 && (hasM m 2 && (cardB (fldM m 2) && (hasM m 3 && (hasM m 4 && (!decide (numM m 4 < 1) && (hasM m 32 && (acqB (fldM m 32) && (hasM m 37 && refB (fldM m 37))))))))))) := rfl
  rw [ok]
  unfold bursarref20_Read.f
  simp only [refIsoPack_is hg, hp, Option.bind_some, bne_self_eq_false, cond_false, mtiRefParse_is, hw, ha, d3, b3, Bool.and_self, cond_true, hO]
  simp only [hk, l14, l16, l41, l42, l48, l49, q1, bT, hO, hO', rpan_is, hA, ref_Ref_is, hH]
  cases h2 : hasM m 2
  · simp only [l14, l16, l41, l42, l48, l49, q1, bT, hO, hO', rpan_is, hA, ref_Ref_is, hH]
    rfl
  simp only [l14, l16, l41, l42, l48, l49, q1, bT, hO, hO', rpan_is, hA, ref_Ref_is, hH]
  cases h3 : hasM m 3
  · simp only [l14, l16, l41, l42, l48, l49, q1, bT, hO, hO', rpan_is, hA, ref_Ref_is, hH]
    rfl
  simp only [l14, l16, l41, l42, l48, l49, q1, bT, hO, hO', rpan_is, hA, ref_Ref_is, hH]
  cases h4F : hasM m 4
  · simp only [l14, l16, l41, l42, l48, l49, q1, bT, hO, hO', rpan_is, hA, ref_Ref_is, hH]
    rfl
  simp only [l14, l16, l41, l42, l48, l49, q1, bT, hO, hO', rpan_is, hA, ref_Ref_is, hH]
  cases h7 : hasM m 7
  · simp only [l14, l16, l41, l42, l48, l49, q1, bT, hO, hO', rpan_is, hA, ref_Ref_is, hH]
    rfl
  simp only [l14, l16, l41, l42, l48, l49, q1, bT, hO, hO', rpan_is, hA, ref_Ref_is, hH]
  cases h11 : hasM m 11
  · simp only [l14, l16, l41, l42, l48, l49, q1, bT, hO, hO', rpan_is, hA, ref_Ref_is, hH]
    rfl
  simp only [l14, l16, l41, l42, l48, l49, q1, bT, hO, hO', rpan_is, hA, ref_Ref_is, hH]
  cases h32 : hasM m 32
  · simp only [l14, l16, l41, l42, l48, l49, q1, bT, hO, hO', rpan_is, hA, ref_Ref_is, hH]
    rfl
  simp only [l14, l16, l41, l42, l48, l49, q1, bT, hO, hO', rpan_is, hA, ref_Ref_is, hH]
  cases h37 : hasM m 37
  · simp only [l14, l16, l41, l42, l48, l49, q1, bT, hO, hO', rpan_is, hA, ref_Ref_is, hH]
    rfl
  simp only [l14, l16, l41, l42, l48, l49, q1, bT, hO, hO', rpan_is, hA, ref_Ref_is, hH]
  cases hc2 : cardB (fldM m 2)
  · simp only [l14, l16, l41, l42, l48, l49, q1, bT, hO, hO', rpan_is, hA, ref_Ref_is, hH]
    rfl
  simp only [l14, l16, l41, l42, l48, l49, q1, bT, hO, hO', rpan_is, hA, ref_Ref_is, hH]
  cases hc32 : acqB (fldM m 32)
  · simp only [l14, l16, l41, l42, l48, l49, q1, bT, hO, hO', rpan_is, hA, ref_Ref_is, hH]
    rfl
  simp only [l14, l16, l41, l42, l48, l49, q1, bT, hO, hO', rpan_is, hA, ref_Ref_is, hH]
  cases hc37 : refB (fldM m 37)
  · simp only [l14, l16, l41, l42, l48, l49, q1, bT, hO, hO', rpan_is, hA, ref_Ref_is, hH]
    rfl
  simp only [l14, l16, l41, l42, l48, l49, q1, bT, hO, hO', rpan_is, hA, ref_Ref_is, hH]
  obtain ⟨_, _, hn4⟩ := fnum hg hok h4F of4 (by omega)
  simp only [hn4, ge_one, l14, l16, l41, l42, l48, l49, q1, bT, hO, hO', rpan_is, hA, ref_Ref_is, hH]
  cases decide (numM m 4 < 1) <;> rfl
theorem q2 : ((2 : Int) == 1) = false ∧ ((2 : Int) == 2) = true ∧ ((2 : Int) == 4) = false ∧ ((2 : Int) == 5) = false ∧ ((2 : Int) == 6) = false ∧ ((2 : Int) == 8) = false ∧ ((2 : Int) != 5) = true ∧ decide ((2 : Int) ≤ 6) = true ∧ decide ((2 : Int) ≤ 2) = true := by decide
theorem rread_class2 {m : Msg} {i : Nat} (hg : goodM m) (hp : (packF m).2 = 0) (hw : whose m.1 = some i) (ha : (mAt i).2.2.1 = false) (hk : (mAt i).1 = 2) :
    bursarref20_Read.f m = some (bif okT m 2 then (trT m (m.1.extract 0 3 ++ bs [48]) 2, 0) else (zT, 16)) := by
  obtain ⟨_, _, _, hok, _⟩ := packF_zero hp
  have hO : ∀ n, bursarref20_of.f (m, n) = some (fldM m n) := fun n => of_fld hg n
  have hO' : ∀ n, bursarref20_of.f ((m.1, m.2), n) = some (fldM m n) := fun n => of_fld hg n
  have hA : ∀ n, bursarref20_acq.f (fldM m n) = some (acqB (fldM m n)) := fun n => racq_is _ (by have := fld_small hg n; omega)
  have hH : bursarref20_has.f ((m.1, m.2), [(2 : Int), (3 : Int), (4 : Int), (7 : Int), (11 : Int), (32 : Int), (37 : Int)]) = some (hasM m 2 && (hasM m 3 && (hasM m 4 && (hasM m 7 && (hasM m 11 && (hasM m 32 && (hasM m 37))))))) := (has_fld hg [(2 : Int), (3 : Int), (4 : Int), (7 : Int), (11 : Int), (32 : Int), (37 : Int)] (by decide)).trans (by simp only [List.all_cons, List.all_nil, Bool.and_true])
  have h4 : m.1.size = 4 := by have := whose_len hw; simpa using this
  have d3 : decide ((3 : Int) ≤ (m.1.size : Int)) = true := decide_eq_true (by omega)
  have b3 : Nat.ble ((m.1.extract 0 3).size + 1) 9223372036854775807 = true := Nat.ble_eq_true_of_le (by rw [ByteArray.size_extract]; omega)
  have ok : okT m 2 = (hasM m 7 && (hasM m 11 && (hasM m 2 && (cardB (fldM m 2) && (hasM m 3 && (hasM m 4 && (!decide (numM m 4 < 1) && (hasM m 32 && (acqB (fldM m 32) && (hasM m 37 && refB (fldM m 37))))))))))) := rfl
  rw [ok]
  unfold bursarref20_Read.f
  simp only [refIsoPack_is hg, hp, Option.bind_some, bne_self_eq_false, cond_false, mtiRefParse_is, hw, ha, d3, b3, Bool.and_self, cond_true, hO]
  simp only [hk, l14, l16, l41, l42, l48, l49, q2, bT, hO, hO', rpan_is, hA, ref_Ref_is, hH]
  cases h2 : hasM m 2
  · simp only [l14, l16, l41, l42, l48, l49, q2, bT, hO, hO', rpan_is, hA, ref_Ref_is, hH]
    rfl
  simp only [l14, l16, l41, l42, l48, l49, q2, bT, hO, hO', rpan_is, hA, ref_Ref_is, hH]
  cases h3 : hasM m 3
  · simp only [l14, l16, l41, l42, l48, l49, q2, bT, hO, hO', rpan_is, hA, ref_Ref_is, hH]
    rfl
  simp only [l14, l16, l41, l42, l48, l49, q2, bT, hO, hO', rpan_is, hA, ref_Ref_is, hH]
  cases h4F : hasM m 4
  · simp only [l14, l16, l41, l42, l48, l49, q2, bT, hO, hO', rpan_is, hA, ref_Ref_is, hH]
    rfl
  simp only [l14, l16, l41, l42, l48, l49, q2, bT, hO, hO', rpan_is, hA, ref_Ref_is, hH]
  cases h7 : hasM m 7
  · simp only [l14, l16, l41, l42, l48, l49, q2, bT, hO, hO', rpan_is, hA, ref_Ref_is, hH]
    rfl
  simp only [l14, l16, l41, l42, l48, l49, q2, bT, hO, hO', rpan_is, hA, ref_Ref_is, hH]
  cases h11 : hasM m 11
  · simp only [l14, l16, l41, l42, l48, l49, q2, bT, hO, hO', rpan_is, hA, ref_Ref_is, hH]
    rfl
  simp only [l14, l16, l41, l42, l48, l49, q2, bT, hO, hO', rpan_is, hA, ref_Ref_is, hH]
  cases h32 : hasM m 32
  · simp only [l14, l16, l41, l42, l48, l49, q2, bT, hO, hO', rpan_is, hA, ref_Ref_is, hH]
    rfl
  simp only [l14, l16, l41, l42, l48, l49, q2, bT, hO, hO', rpan_is, hA, ref_Ref_is, hH]
  cases h37 : hasM m 37
  · simp only [l14, l16, l41, l42, l48, l49, q2, bT, hO, hO', rpan_is, hA, ref_Ref_is, hH]
    rfl
  simp only [l14, l16, l41, l42, l48, l49, q2, bT, hO, hO', rpan_is, hA, ref_Ref_is, hH]
  cases hc2 : cardB (fldM m 2)
  · simp only [l14, l16, l41, l42, l48, l49, q2, bT, hO, hO', rpan_is, hA, ref_Ref_is, hH]
    rfl
  simp only [l14, l16, l41, l42, l48, l49, q2, bT, hO, hO', rpan_is, hA, ref_Ref_is, hH]
  cases hc32 : acqB (fldM m 32)
  · simp only [l14, l16, l41, l42, l48, l49, q2, bT, hO, hO', rpan_is, hA, ref_Ref_is, hH]
    rfl
  simp only [l14, l16, l41, l42, l48, l49, q2, bT, hO, hO', rpan_is, hA, ref_Ref_is, hH]
  cases hc37 : refB (fldM m 37)
  · simp only [l14, l16, l41, l42, l48, l49, q2, bT, hO, hO', rpan_is, hA, ref_Ref_is, hH]
    rfl
  simp only [l14, l16, l41, l42, l48, l49, q2, bT, hO, hO', rpan_is, hA, ref_Ref_is, hH]
  obtain ⟨_, _, hn4⟩ := fnum hg hok h4F of4 (by omega)
  simp only [hn4, ge_one, l14, l16, l41, l42, l48, l49, q2, bT, hO, hO', rpan_is, hA, ref_Ref_is, hH]
  cases decide (numM m 4 < 1) <;> rfl
theorem q4 : ((4 : Int) == 1) = false ∧ ((4 : Int) == 2) = false ∧ ((4 : Int) == 4) = true ∧ ((4 : Int) == 5) = false ∧ ((4 : Int) == 6) = false ∧ ((4 : Int) == 8) = false ∧ ((4 : Int) != 5) = true ∧ decide ((4 : Int) ≤ 6) = true ∧ decide ((4 : Int) ≤ 2) = false := by decide
theorem rread_class4 {m : Msg} {i : Nat} (hg : goodM m) (hp : (packF m).2 = 0) (hw : whose m.1 = some i) (ha : (mAt i).2.2.1 = false) (hk : (mAt i).1 = 4) :
    bursarref20_Read.f m = some (bif okT m 4 then (trT m (m.1.extract 0 3 ++ bs [48]) 4, 0) else (zT, 16)) := by
  obtain ⟨_, _, _, hok, _⟩ := packF_zero hp
  have hO : ∀ n, bursarref20_of.f (m, n) = some (fldM m n) := fun n => of_fld hg n
  have hO' : ∀ n, bursarref20_of.f ((m.1, m.2), n) = some (fldM m n) := fun n => of_fld hg n
  have hA : ∀ n, bursarref20_acq.f (fldM m n) = some (acqB (fldM m n)) := fun n => racq_is _ (by have := fld_small hg n; omega)
  have hH : bursarref20_has.f ((m.1, m.2), [(4 : Int), (7 : Int), (11 : Int), (32 : Int), (37 : Int), (90 : Int)]) = some (hasM m 4 && (hasM m 7 && (hasM m 11 && (hasM m 32 && (hasM m 37 && (hasM m 90)))))) := (has_fld hg [(4 : Int), (7 : Int), (11 : Int), (32 : Int), (37 : Int), (90 : Int)] (by decide)).trans (by simp only [List.all_cons, List.all_nil, Bool.and_true])
  have h4 : m.1.size = 4 := by have := whose_len hw; simpa using this
  have d3 : decide ((3 : Int) ≤ (m.1.size : Int)) = true := decide_eq_true (by omega)
  have b3 : Nat.ble ((m.1.extract 0 3).size + 1) 9223372036854775807 = true := Nat.ble_eq_true_of_le (by rw [ByteArray.size_extract]; omega)
  have ok : okT m 4 = (hasM m 7 && (hasM m 11 && (hasM m 4 && (hasM m 32 && (acqB (fldM m 32) && (hasM m 37 && (refB (fldM m 37) && (hasM m 90 && origB (fldM m 90))))))))) := rfl
  rw [ok]
  unfold bursarref20_Read.f
  simp only [refIsoPack_is hg, hp, Option.bind_some, bne_self_eq_false, cond_false, mtiRefParse_is, hw, ha, d3, b3, Bool.and_self, cond_true, hO]
  by_cases h42 : (fldM m 90).size = 42
  rotate_left
  · have h90 : hasM m 90 = false := by
      cases h : hasM m 90
      · rfl
      · exact absurd (by have := fsize hg hok h of90; omega) h42
    have e42 : (((fldM m 90).size : Int) == 42) = false := by simp; omega
    simp only [hk, e42, h90, l14, l16, l41, l42, l48, l49, q4, bT, hO, hO', rpan_is, hA, ref_Ref_is, hH]
    rfl
  have e42 : (((fldM m 90).size : Int) == 42) = true := by simp; omega
  obtain ⟨b1, b2, b4, b5⟩ := orig_ble (s := fldM m 90) (rrn := fldM m 37) (acq := fldM m 32) h42 (fld_small hg 37) (fld_small hg 32)
  have f2 : decide ((2 : Int) ≤ ((fldM m 90).size : Int)) = true := decide_eq_true (by omega)
  have f4 : decide ((4 : Int) ≤ ((fldM m 90).size : Int)) = true := decide_eq_true (by omega)
  have f10 : decide ((10 : Int) ≤ ((fldM m 90).size : Int)) = true := decide_eq_true (by omega)
  have f20 : decide ((20 : Int) ≤ ((fldM m 90).size : Int)) = true := decide_eq_true (by omega)
  simp only [hk, e42, f2, f4, f10, f20, b1, b2, b4, b5, mtiRefParse_is, l14, l16, l41, l42, l48, l49, q4, bT, hO, hO', rpan_is, hA, ref_Ref_is, hH]
  unfold origB
  cases h4F : hasM m 4
  · simp only [l14, l16, l41, l42, l48, l49, q4, bT, hO, hO', rpan_is, hA, ref_Ref_is, hH]
    rfl
  simp only [l14, l16, l41, l42, l48, l49, q4, bT, hO, hO', rpan_is, hA, ref_Ref_is, hH]
  cases h7 : hasM m 7
  · simp only [l14, l16, l41, l42, l48, l49, q4, bT, hO, hO', rpan_is, hA, ref_Ref_is, hH]
    rfl
  simp only [l14, l16, l41, l42, l48, l49, q4, bT, hO, hO', rpan_is, hA, ref_Ref_is, hH]
  cases h11 : hasM m 11
  · simp only [l14, l16, l41, l42, l48, l49, q4, bT, hO, hO', rpan_is, hA, ref_Ref_is, hH]
    rfl
  simp only [l14, l16, l41, l42, l48, l49, q4, bT, hO, hO', rpan_is, hA, ref_Ref_is, hH]
  cases h32 : hasM m 32
  · simp only [l14, l16, l41, l42, l48, l49, q4, bT, hO, hO', rpan_is, hA, ref_Ref_is, hH]
    rfl
  simp only [l14, l16, l41, l42, l48, l49, q4, bT, hO, hO', rpan_is, hA, ref_Ref_is, hH]
  cases h37 : hasM m 37
  · simp only [l14, l16, l41, l42, l48, l49, q4, bT, hO, hO', rpan_is, hA, ref_Ref_is, hH]
    rfl
  simp only [l14, l16, l41, l42, l48, l49, q4, bT, hO, hO', rpan_is, hA, ref_Ref_is, hH]
  cases h90 : hasM m 90
  · simp only [l14, l16, l41, l42, l48, l49, q4, bT, hO, hO', rpan_is, hA, ref_Ref_is, hH]
    rfl
  simp only [l14, l16, l41, l42, l48, l49, q4, bT, hO, hO', rpan_is, hA, ref_Ref_is, hH]
  cases hc32 : acqB (fldM m 32)
  · simp only [l14, l16, l41, l42, l48, l49, q4, bT, hO, hO', rpan_is, hA, ref_Ref_is, hH]
    rfl
  simp only [l14, l16, l41, l42, l48, l49, q4, bT, hO, hO', rpan_is, hA, ref_Ref_is, hH]
  cases hc37 : refB (fldM m 37)
  · simp only [l14, l16, l41, l42, l48, l49, q4, bT, hO, hO', rpan_is, hA, ref_Ref_is, hH]
    rfl
  simp only [l14, l16, l41, l42, l48, l49, q4, bT, hO, hO', rpan_is, hA, ref_Ref_is, hH]
  obtain ⟨_, _, hn4⟩ := fnum hg hok h4F of4 (by omega)
  cases hwo : whose ((fldM m 90).extract 0 4) with
  | none =>
    simp only [l14, l16, l41, l42, l48, l49, q4, bT, hO, hO', rpan_is, hA, ref_Ref_is, hH]
    rfl
  | some j =>
    simp only [l14, l16, l41, l42, l48, l49, q4, bT, hO, hO', rpan_is, hA, ref_Ref_is, hH]
    rcases class_at j (whose_lt hwo).1 with hj | hj | hj | hj | hj | hj <;> simp only [hj] <;> cases (mAt j).2.2.1 <;> simp only [hn4, decide_eq_true (show numM m 4 ≥ 0 by have := numM_nn m 4; omega), show decide ((1 : Int) ≤ 2) = true from rfl, show decide ((2 : Int) ≤ 2) = true from rfl, show decide ((5 : Int) ≤ 2) = false from rfl, show decide ((6 : Int) ≤ 2) = false from rfl, show decide ((8 : Int) ≤ 2) = false from rfl, l14, l16, l41, l42, l48, l49, q4, bT, hO, hO', rpan_is, hA, ref_Ref_is, hH] <;> rfl
theorem q5 : ((5 : Int) == 1) = false ∧ ((5 : Int) == 2) = false ∧ ((5 : Int) == 4) = false ∧ ((5 : Int) == 5) = true ∧ ((5 : Int) == 6) = false ∧ ((5 : Int) == 8) = false ∧ ((5 : Int) != 5) = false ∧ decide ((5 : Int) ≤ 6) = true ∧ decide ((5 : Int) ≤ 2) = false := by decide
theorem rread_class5 {m : Msg} {i : Nat} (hg : goodM m) (hp : (packF m).2 = 0) (hw : whose m.1 = some i) (ha : (mAt i).2.2.1 = false) (hk : (mAt i).1 = 5) :
    bursarref20_Read.f m = some (bif okT m 5 then (trT m (m.1.extract 0 3 ++ bs [48]) 5, 0) else (zT, 16)) := by
  obtain ⟨_, _, _, hok, _⟩ := packF_zero hp
  have hO : ∀ n, bursarref20_of.f (m, n) = some (fldM m n) := fun n => of_fld hg n
  have hO' : ∀ n, bursarref20_of.f ((m.1, m.2), n) = some (fldM m n) := fun n => of_fld hg n
  have hA : ∀ n, bursarref20_acq.f (fldM m n) = some (acqB (fldM m n)) := fun n => racq_is _ (by have := fld_small hg n; omega)
  have hH : bursarref20_has.f ((m.1, m.2), [(7 : Int), (11 : Int), (32 : Int), (74 : Int), (86 : Int)]) = some (hasM m 7 && (hasM m 11 && (hasM m 32 && (hasM m 74 && (hasM m 86))))) := (has_fld hg [(7 : Int), (11 : Int), (32 : Int), (74 : Int), (86 : Int)] (by decide)).trans (by simp only [List.all_cons, List.all_nil, Bool.and_true])
  have h4 : m.1.size = 4 := by have := whose_len hw; simpa using this
  have d3 : decide ((3 : Int) ≤ (m.1.size : Int)) = true := decide_eq_true (by omega)
  have b3 : Nat.ble ((m.1.extract 0 3).size + 1) 9223372036854775807 = true := Nat.ble_eq_true_of_le (by rw [ByteArray.size_extract]; omega)
  have ok : okT m 5 = (hasM m 7 && (hasM m 11 && (hasM m 32 && (acqB (fldM m 32) && (hasM m 74 && hasM m 86))))) := rfl
  rw [ok]
  unfold bursarref20_Read.f
  simp only [refIsoPack_is hg, hp, Option.bind_some, bne_self_eq_false, cond_false, mtiRefParse_is, hw, ha, d3, b3, Bool.and_self, cond_true, hO]
  simp only [hk, l14, l16, l41, l42, l48, l49, q5, bT, hO, hO', rpan_is, hA, ref_Ref_is, hH]
  cases h7 : hasM m 7
  · simp only [l14, l16, l41, l42, l48, l49, q5, bT, hO, hO', rpan_is, hA, ref_Ref_is, hH]
    rfl
  simp only [l14, l16, l41, l42, l48, l49, q5, bT, hO, hO', rpan_is, hA, ref_Ref_is, hH]
  cases h11 : hasM m 11
  · simp only [l14, l16, l41, l42, l48, l49, q5, bT, hO, hO', rpan_is, hA, ref_Ref_is, hH]
    rfl
  simp only [l14, l16, l41, l42, l48, l49, q5, bT, hO, hO', rpan_is, hA, ref_Ref_is, hH]
  cases h32 : hasM m 32
  · simp only [l14, l16, l41, l42, l48, l49, q5, bT, hO, hO', rpan_is, hA, ref_Ref_is, hH]
    rfl
  simp only [l14, l16, l41, l42, l48, l49, q5, bT, hO, hO', rpan_is, hA, ref_Ref_is, hH]
  cases h74 : hasM m 74
  · simp only [l14, l16, l41, l42, l48, l49, q5, bT, hO, hO', rpan_is, hA, ref_Ref_is, hH]
    rfl
  simp only [l14, l16, l41, l42, l48, l49, q5, bT, hO, hO', rpan_is, hA, ref_Ref_is, hH]
  cases h86 : hasM m 86
  · simp only [l14, l16, l41, l42, l48, l49, q5, bT, hO, hO', rpan_is, hA, ref_Ref_is, hH]
    rfl
  simp only [l14, l16, l41, l42, l48, l49, q5, bT, hO, hO', rpan_is, hA, ref_Ref_is, hH]
  cases hc32 : acqB (fldM m 32)
  · simp only [l14, l16, l41, l42, l48, l49, q5, bT, hO, hO', rpan_is, hA, ref_Ref_is, hH]
    rfl
  simp only [l14, l16, l41, l42, l48, l49, q5, bT, hO, hO', rpan_is, hA, ref_Ref_is, hH]
  obtain ⟨_, _, hn74⟩ := fnum hg hok h74 of74 (by omega)
  obtain ⟨_, _, hn86⟩ := fnum hg hok h86 of86 (by omega)
  simp only [hn74, hn86, decide_eq_true (show numM m 74 ≥ 0 by have := numM_nn m 74; omega), decide_eq_true (show numM m 86 ≥ 0 by have := numM_nn m 86; omega), l14, l16, l41, l42, l48, l49, q5, bT, hO, hO', rpan_is, hA, ref_Ref_is, hH]
  rfl
theorem q6 : ((6 : Int) == 1) = false ∧ ((6 : Int) == 2) = false ∧ ((6 : Int) == 4) = false ∧ ((6 : Int) == 5) = false ∧ ((6 : Int) == 6) = true ∧ ((6 : Int) == 8) = false ∧ ((6 : Int) != 5) = true ∧ decide ((6 : Int) ≤ 6) = true ∧ decide ((6 : Int) ≤ 2) = false := by decide
theorem rread_class6 {m : Msg} {i : Nat} (hg : goodM m) (hp : (packF m).2 = 0) (hw : whose m.1 = some i) (ha : (mAt i).2.2.1 = false) (hk : (mAt i).1 = 6) :
    bursarref20_Read.f m = some (bif okT m 6 then (trT m (m.1.extract 0 3 ++ bs [48]) 6, 0) else (zT, 16)) := by
  obtain ⟨_, _, _, hok, _⟩ := packF_zero hp
  have hO : ∀ n, bursarref20_of.f (m, n) = some (fldM m n) := fun n => of_fld hg n
  have hO' : ∀ n, bursarref20_of.f ((m.1, m.2), n) = some (fldM m n) := fun n => of_fld hg n
  have hA : ∀ n, bursarref20_acq.f (fldM m n) = some (acqB (fldM m n)) := fun n => racq_is _ (by have := fld_small hg n; omega)
  have hH : bursarref20_has.f ((m.1, m.2), [(3 : Int), (4 : Int), (7 : Int), (11 : Int), (32 : Int), (37 : Int)]) = some (hasM m 3 && (hasM m 4 && (hasM m 7 && (hasM m 11 && (hasM m 32 && (hasM m 37)))))) := (has_fld hg [(3 : Int), (4 : Int), (7 : Int), (11 : Int), (32 : Int), (37 : Int)] (by decide)).trans (by simp only [List.all_cons, List.all_nil, Bool.and_true])
  have h4 : m.1.size = 4 := by have := whose_len hw; simpa using this
  have d3 : decide ((3 : Int) ≤ (m.1.size : Int)) = true := decide_eq_true (by omega)
  have b3 : Nat.ble ((m.1.extract 0 3).size + 1) 9223372036854775807 = true := Nat.ble_eq_true_of_le (by rw [ByteArray.size_extract]; omega)
  have ok : okT m 6 = (hasM m 7 && (hasM m 11 && (hasM m 3 && (hasM m 4 && (!decide (numM m 4 < 1) && (hasM m 32 && (acqB (fldM m 32) && (hasM m 37 && refB (fldM m 37))))))))) := rfl
  rw [ok]
  unfold bursarref20_Read.f
  simp only [refIsoPack_is hg, hp, Option.bind_some, bne_self_eq_false, cond_false, mtiRefParse_is, hw, ha, d3, b3, Bool.and_self, cond_true, hO]
  simp only [hk, l14, l16, l41, l42, l48, l49, q6, bT, hO, hO', rpan_is, hA, ref_Ref_is, hH]
  cases h3 : hasM m 3
  · simp only [l14, l16, l41, l42, l48, l49, q6, bT, hO, hO', rpan_is, hA, ref_Ref_is, hH]
    rfl
  simp only [l14, l16, l41, l42, l48, l49, q6, bT, hO, hO', rpan_is, hA, ref_Ref_is, hH]
  cases h4F : hasM m 4
  · simp only [l14, l16, l41, l42, l48, l49, q6, bT, hO, hO', rpan_is, hA, ref_Ref_is, hH]
    rfl
  simp only [l14, l16, l41, l42, l48, l49, q6, bT, hO, hO', rpan_is, hA, ref_Ref_is, hH]
  cases h7 : hasM m 7
  · simp only [l14, l16, l41, l42, l48, l49, q6, bT, hO, hO', rpan_is, hA, ref_Ref_is, hH]
    rfl
  simp only [l14, l16, l41, l42, l48, l49, q6, bT, hO, hO', rpan_is, hA, ref_Ref_is, hH]
  cases h11 : hasM m 11
  · simp only [l14, l16, l41, l42, l48, l49, q6, bT, hO, hO', rpan_is, hA, ref_Ref_is, hH]
    rfl
  simp only [l14, l16, l41, l42, l48, l49, q6, bT, hO, hO', rpan_is, hA, ref_Ref_is, hH]
  cases h32 : hasM m 32
  · simp only [l14, l16, l41, l42, l48, l49, q6, bT, hO, hO', rpan_is, hA, ref_Ref_is, hH]
    rfl
  simp only [l14, l16, l41, l42, l48, l49, q6, bT, hO, hO', rpan_is, hA, ref_Ref_is, hH]
  cases h37 : hasM m 37
  · simp only [l14, l16, l41, l42, l48, l49, q6, bT, hO, hO', rpan_is, hA, ref_Ref_is, hH]
    rfl
  simp only [l14, l16, l41, l42, l48, l49, q6, bT, hO, hO', rpan_is, hA, ref_Ref_is, hH]
  cases hc32 : acqB (fldM m 32)
  · simp only [l14, l16, l41, l42, l48, l49, q6, bT, hO, hO', rpan_is, hA, ref_Ref_is, hH]
    rfl
  simp only [l14, l16, l41, l42, l48, l49, q6, bT, hO, hO', rpan_is, hA, ref_Ref_is, hH]
  cases hc37 : refB (fldM m 37)
  · simp only [l14, l16, l41, l42, l48, l49, q6, bT, hO, hO', rpan_is, hA, ref_Ref_is, hH]
    rfl
  simp only [l14, l16, l41, l42, l48, l49, q6, bT, hO, hO', rpan_is, hA, ref_Ref_is, hH]
  obtain ⟨_, _, hn4⟩ := fnum hg hok h4F of4 (by omega)
  simp only [hn4, ge_one, l14, l16, l41, l42, l48, l49, q6, bT, hO, hO', rpan_is, hA, ref_Ref_is, hH]
  cases decide (numM m 4 < 1) <;> rfl
theorem q8 : ((8 : Int) == 1) = false ∧ ((8 : Int) == 2) = false ∧ ((8 : Int) == 4) = false ∧ ((8 : Int) == 5) = false ∧ ((8 : Int) == 6) = false ∧ ((8 : Int) == 8) = true ∧ ((8 : Int) != 5) = true ∧ decide ((8 : Int) ≤ 6) = false ∧ decide ((8 : Int) ≤ 2) = false := by decide
theorem rread_class8 {m : Msg} {i : Nat} (hg : goodM m) (hp : (packF m).2 = 0) (hw : whose m.1 = some i) (ha : (mAt i).2.2.1 = false) (hk : (mAt i).1 = 8) :
    bursarref20_Read.f m = some (bif okT m 8 then (trT m (m.1.extract 0 3 ++ bs [48]) 8, 0) else (zT, 16)) := by
  obtain ⟨_, _, _, hok, _⟩ := packF_zero hp
  have hO : ∀ n, bursarref20_of.f (m, n) = some (fldM m n) := fun n => of_fld hg n
  have hO' : ∀ n, bursarref20_of.f ((m.1, m.2), n) = some (fldM m n) := fun n => of_fld hg n
  have hA : ∀ n, bursarref20_acq.f (fldM m n) = some (acqB (fldM m n)) := fun n => racq_is _ (by have := fld_small hg n; omega)
  have hH : bursarref20_has.f ((m.1, m.2), [(7 : Int), (11 : Int), (70 : Int)]) = some (hasM m 7 && (hasM m 11 && (hasM m 70))) := (has_fld hg [(7 : Int), (11 : Int), (70 : Int)] (by decide)).trans (by simp only [List.all_cons, List.all_nil, Bool.and_true])
  have h4 : m.1.size = 4 := by have := whose_len hw; simpa using this
  have d3 : decide ((3 : Int) ≤ (m.1.size : Int)) = true := decide_eq_true (by omega)
  have b3 : Nat.ble ((m.1.extract 0 3).size + 1) 9223372036854775807 = true := Nat.ble_eq_true_of_le (by rw [ByteArray.size_extract]; omega)
  have ok : okT m 8 = (hasM m 7 && (hasM m 11 && hasM m 70)) := rfl
  rw [ok]
  unfold bursarref20_Read.f
  simp only [refIsoPack_is hg, hp, Option.bind_some, bne_self_eq_false, cond_false, mtiRefParse_is, hw, ha, d3, b3, Bool.and_self, cond_true, hO]
  simp only [hk, l14, l16, l41, l42, l48, l49, q8, bT, hO, hO', rpan_is, hA, ref_Ref_is, hH]
  cases h7 : hasM m 7
  · simp only [l14, l16, l41, l42, l48, l49, q8, bT, hO, hO', rpan_is, hA, ref_Ref_is, hH]
    rfl
  simp only [l14, l16, l41, l42, l48, l49, q8, bT, hO, hO', rpan_is, hA, ref_Ref_is, hH]
  cases h11 : hasM m 11
  · simp only [l14, l16, l41, l42, l48, l49, q8, bT, hO, hO', rpan_is, hA, ref_Ref_is, hH]
    rfl
  simp only [l14, l16, l41, l42, l48, l49, q8, bT, hO, hO', rpan_is, hA, ref_Ref_is, hH]
  cases h70 : hasM m 70
  · simp only [l14, l16, l41, l42, l48, l49, q8, bT, hO, hO', rpan_is, hA, ref_Ref_is, hH]
    rfl
  simp only [l14, l16, l41, l42, l48, l49, q8, bT, hO, hO', rpan_is, hA, ref_Ref_is, hH]
  rfl
theorem refRead_is {m : Msg} {i : Nat} (hg : goodM m) (hp : (packF m).2 = 0) (hw : whose m.1 = some i) (ha : (mAt i).2.2.1 = false) :
    bursarref20_Read.f m = some (bif okT m (mAt i).1 then (trT m (m.1.extract 0 3 ++ bs [48]) (mAt i).1, 0) else (zT, 16)) := by
  rcases class_at i (whose_lt hw).1 with h | h | h | h | h | h <;> rw [h]
  · exact rread_class1 hg hp hw ha h
  · exact rread_class2 hg hp hw ha h
  · exact rread_class4 hg hp hw ha h
  · exact rread_class5 hg hp hw ha h
  · exact rread_class6 hg hp hw ha h
  · exact rread_class8 hg hp hw ha h
theorem refRead_bad {m : Msg} (hg : goodM m) (hp : (packF m).2 ≠ 0) : bursarref20_Read.f m = some (zT, 1) := by
  have e : ((packF m).2 != 0) = true := by simpa using hp
  unfold bursarref20_Read.f
  simp only [refIsoPack_is hg, Option.bind_some, e, cond_true]
  rfl
theorem refRead_answer {m : Msg} {i : Nat} (hg : goodM m) (hp : (packF m).2 = 0) (hw : whose m.1 = some i) (ha : (mAt i).2.2.1 = true) : bursarref20_Read.f m = some (zT, 17) := by
  unfold bursarref20_Read.f
  simp only [refIsoPack_is hg, hp, Option.bind_some, bne_self_eq_false, cond_false, mtiRefParse_is, hw, ha, cond_true]
  rfl
end Go.Proofs.YtpoiijkodpnobaaGreatDoor
end
section
set_option linter.unusedVariables false
set_option maxRecDepth 100000
namespace Go.Proofs.YtpoiijkodpnobaaGreatDoor
open Go Go.Fw
abbrev bursarlaw20_TradeReads.As : Shs := (.cons (.x T_api_Message) .nil)
abbrev bursarlaw20_TradeReads.m : Back := [(false, .b)]
noncomputable abbrev bursarlaw20_TradeReads.H : HK := hk P G1 E0 J0 [bursarlaw19_Few.row, trade_Read.row, bursarref20_Read.row, bursarlaw20_awake.row, trade_Key.row, bursarref20_Key.row, bursarref19_Pack.row] noLoops 4
theorem bursarlaw20_TradeReads.rows : TabOK P G1 (tabF [bursarlaw19_Few.row, trade_Read.row, bursarref20_Read.row, bursarlaw20_awake.row, trade_Key.row, bursarref20_Key.row, bursarref19_Pack.row]) := rows_ok (ws := [bursarlaw19_Few.row, trade_Read.row, bursarref20_Read.row, bursarlaw20_awake.row, trade_Key.row, bursarref20_Key.row, bursarref19_Pack.row]) ⟨(bursarlaw19_Few.row_ok.more g01), ⟨trade_Read.row_ok, ⟨(bursarref20_Read.row_ok.more g01), ⟨bursarlaw20_awake.row_ok, ⟨(trade_Key.row_ok.more g01), ⟨(bursarref20_Key.row_ok.more g01), ⟨(bursarref19_Pack.row_ok.more g01), trivial⟩⟩⟩⟩⟩⟩⟩
theorem bursarlaw20_TradeReads.hok : HKOK P bursarlaw20_TradeReads.H := hk_ok e0_ok j0_ok bursarlaw20_TradeReads.rows (fun g n => noLoops_ok g n) 4
noncomputable def bursarlaw20_TradeReads.f (a : (ByteArray × (List (Int × ByteArray)))) : Option Bool := (((bursarlaw19_Few.f a)).bind fun x1 => (((trade_Read.f x1)).bind fun x2 => (((bursarref20_Read.f x1)).bind fun x3 => (bif (!(((ByteArray.toList x2.1.1) == (ByteArray.toList x3.1.1)) && (((ByteArray.toList x2.1.2.1) == (ByteArray.toList x3.1.2.1)) && (((ByteArray.toList x2.1.2.2.1) == (ByteArray.toList x3.1.2.2.1)) && ((x2.1.2.2.2.1 == x3.1.2.2.2.1) && (((ByteArray.toList x2.1.2.2.2.2.1) == (ByteArray.toList x3.1.2.2.2.2.1)) && (((ByteArray.toList x2.1.2.2.2.2.2.1) == (ByteArray.toList x3.1.2.2.2.2.2.1)) && (((ByteArray.toList x2.1.2.2.2.2.2.2.1) == (ByteArray.toList x3.1.2.2.2.2.2.2.1)) && (((ByteArray.toList x2.1.2.2.2.2.2.2.2.1) == (ByteArray.toList x3.1.2.2.2.2.2.2.2.1)) && (((ByteArray.toList x2.1.2.2.2.2.2.2.2.2.1) == (ByteArray.toList x3.1.2.2.2.2.2.2.2.2.1)) && ((x2.1.2.2.2.2.2.2.2.2.2.1 == x3.1.2.2.2.2.2.2.2.2.2.1) && ((x2.1.2.2.2.2.2.2.2.2.2.2.1 == x3.1.2.2.2.2.2.2.2.2.2.2.1) && (((ByteArray.toList x2.1.2.2.2.2.2.2.2.2.2.2.2) == (ByteArray.toList x3.1.2.2.2.2.2.2.2.2.2.2.2)) && true))))))))))))) then (some false) else (bif (x2.2 != x3.2) then (some false) else (bif (x3.2 != (0 : Int)) then (((bursarlaw20_awake.f ())).bind fun x4 => (some x4)) else (((trade_Key.f x2.1)).bind fun x4 => (((bursarref20_Key.f x2.1)).bind fun x5 => (bif (!((ByteArray.toList x4) == (ByteArray.toList x5))) then (some false) else (bif ((x4.size : Int) != (35 : Int)) then (some false) else (bif (true && (decide (((3 : Int) ≤ (x1.1.size : Int))))) then (bif (Nat.ble ((ByteArray.extract x1.1 0 3).size + 1) 9223372036854775807) then (((bursarref19_Pack.f (((ByteArray.extract x1.1 0 3) ++ (bs [49])), x1.2))).bind fun x6 => (bif (x6.2 != (0 : Int)) then (some false) else (((trade_Read.f (((ByteArray.extract x1.1 0 3) ++ (bs [49])), x1.2))).bind fun x7 => (bif (((ByteArray.toList x7.1.1) == (ByteArray.toList x2.1.1)) && (((ByteArray.toList x7.1.2.1) == (ByteArray.toList x2.1.2.1)) && (((ByteArray.toList x7.1.2.2.1) == (ByteArray.toList x2.1.2.2.1)) && ((x7.1.2.2.2.1 == x2.1.2.2.2.1) && (((ByteArray.toList x7.1.2.2.2.2.1) == (ByteArray.toList x2.1.2.2.2.2.1)) && (((ByteArray.toList x7.1.2.2.2.2.2.1) == (ByteArray.toList x2.1.2.2.2.2.2.1)) && (((ByteArray.toList x7.1.2.2.2.2.2.2.1) == (ByteArray.toList x2.1.2.2.2.2.2.2.1)) && (((ByteArray.toList x7.1.2.2.2.2.2.2.2.1) == (ByteArray.toList x2.1.2.2.2.2.2.2.2.1)) && (((ByteArray.toList x7.1.2.2.2.2.2.2.2.2.1) == (ByteArray.toList x2.1.2.2.2.2.2.2.2.2.1)) && ((x7.1.2.2.2.2.2.2.2.2.2.1 == x2.1.2.2.2.2.2.2.2.2.2.1) && ((x7.1.2.2.2.2.2.2.2.2.2.2.1 == x2.1.2.2.2.2.2.2.2.2.2.2.1) && (((ByteArray.toList x7.1.2.2.2.2.2.2.2.2.2.2.2) == (ByteArray.toList x2.1.2.2.2.2.2.2.2.2.2.2.2)) && true)))))))))))) then (bif (x7.2 == (0 : Int)) then (((bursarlaw20_awake.f ())).bind fun x8 => (some x8)) else (some false)) else (some false))))) else none) else none)))))))))))
theorem bursarlaw20_TradeReads.ok : ∀ a : Vals bursarlaw20_TradeReads.As.tys, fnK P bursarlaw20_TradeReads.H (lp []) 3 bursarlaw20_TradeReads.As bursarlaw20_TradeReads.m a some = bursarlaw20_TradeReads.f a := fun a => by kernel_rfl
noncomputable abbrev bursarlaw20_TradeReads.row : Row := fnRow 3 bursarlaw20_TradeReads.As bursarlaw20_TradeReads.m bursarlaw20_TradeReads.f
theorem bursarlaw20_TradeReads.row_ok : RowOK P G1 bursarlaw20_TradeReads.row := row_told bursarlaw20_TradeReads.hok (lp_of (l := []) trivial) (fun _ => rfl) bursarlaw20_TradeReads.ok
end Go.Proofs.YtpoiijkodpnobaaGreatDoor
end
section
set_option linter.unusedVariables false
set_option linter.unusedSimpArgs false
set_option maxHeartbeats 1000000
set_option maxRecDepth 10000
namespace Go.Proofs.YtpoiijkodpnobaaGreatDoor
open Go Go.Fw
structure ReadT (m : Msg) (t : Tr) : Prop where
  mti : t.1 = m.1.extract 0 3 ++ bs [48]
  four : t.1.size = 4
  sent : t.2.2.2.2.1.size = 10
  stan : t.2.2.2.2.2.1.size = 6
  acq : t.2.2.2.2.2.2.1 = bs [] ∨ t.2.2.2.2.2.2.1.size = 6
  rrn : t.2.2.2.2.2.2.2.1 = bs [] ∨ t.2.2.2.2.2.2.2.1.size = 12
theorem readT_of {m : Msg} {i : Nat} (hg : goodM m) (hp : (packF m).2 = 0) (hw : whose m.1 = some i) (ho : okT m (mAt i).1 = true) : ReadT m (trT m (m.1.extract 0 3 ++ bs [48]) (mAt i).1) := by
  obtain ⟨_, _, _, hok, _⟩ := packF_zero hp
  have h4 : m.1.size = 4 := by have := whose_len hw; simpa using this
  have hf : (m.1.extract 0 3 ++ bs [48]).size = 4 := by rw [ByteArray.size_append, ByteArray.size_extract, bs_size]; simp; omega
  have s7 : hasM m 7 = true → (fldM m 7).size = 10 := fun h => by have := fsize hg hok h of7; omega
  have s11 : hasM m 11 = true → (fldM m 11).size = 6 := fun h => by have := fsize hg hok h of11; omega
  obtain ⟨k, hk⟩ : ∃ k, (mAt i).1 = k := ⟨_, rfl⟩
  have hc := class_at i (whose_lt hw).1
  rw [hk] at ho hc ⊢
  rcases hc with rfl | rfl | rfl | rfl | rfl | rfl
  · have ho : (hasM m 7 && (hasM m 11 && (hasM m 2 && (cardB (fldM m 2) && (hasM m 3 && (hasM m 4 && (!decide (numM m 4 < 1) && (hasM m 32 && (acqB (fldM m 32) && (hasM m 37 && refB (fldM m 37))))))))))) = true := ho
    simp only [Bool.and_eq_true] at ho
    exact ⟨rfl, hf, s7 ho.1, s11 ho.2.1, .inr (acq_size ho.2.2.2.2.2.2.2.2.1), .inr (ref_size ho.2.2.2.2.2.2.2.2.2.2)⟩
  · have ho : (hasM m 7 && (hasM m 11 && (hasM m 2 && (cardB (fldM m 2) && (hasM m 3 && (hasM m 4 && (!decide (numM m 4 < 1) && (hasM m 32 && (acqB (fldM m 32) && (hasM m 37 && refB (fldM m 37))))))))))) = true := ho
    simp only [Bool.and_eq_true] at ho
    exact ⟨rfl, hf, s7 ho.1, s11 ho.2.1, .inr (acq_size ho.2.2.2.2.2.2.2.2.1), .inr (ref_size ho.2.2.2.2.2.2.2.2.2.2)⟩
  · have ho : (hasM m 7 && (hasM m 11 && (hasM m 4 && (hasM m 32 && (acqB (fldM m 32) && (hasM m 37 && (refB (fldM m 37) && (hasM m 90 && origB (fldM m 90))))))))) = true := ho
    simp only [Bool.and_eq_true] at ho
    exact ⟨rfl, hf, s7 ho.1, s11 ho.2.1, .inr (acq_size ho.2.2.2.2.1), .inr (ref_size ho.2.2.2.2.2.2.1)⟩
  · have ho : (hasM m 7 && (hasM m 11 && (hasM m 32 && (acqB (fldM m 32) && (hasM m 74 && hasM m 86))))) = true := ho
    simp only [Bool.and_eq_true] at ho
    exact ⟨rfl, hf, s7 ho.1, s11 ho.2.1, .inr (acq_size ho.2.2.2.1), .inl rfl⟩
  · have ho : (hasM m 7 && (hasM m 11 && (hasM m 3 && (hasM m 4 && (!decide (numM m 4 < 1) && (hasM m 32 && (acqB (fldM m 32) && (hasM m 37 && refB (fldM m 37))))))))) = true := ho
    simp only [Bool.and_eq_true] at ho
    exact ⟨rfl, hf, s7 ho.1, s11 ho.2.1, .inr (acq_size ho.2.2.2.2.2.2.1), .inr (ref_size ho.2.2.2.2.2.2.2.2)⟩
  · have ho : (hasM m 7 && (hasM m 11 && hasM m 70)) = true := ho
    simp only [Bool.and_eq_true] at ho
    exact ⟨rfl, hf, s7 ho.1, s11 ho.2.1, .inl rfl, .inl rfl⟩
theorem ReadT.key {m : Msg} {t : Tr} (h : ReadT m t) : keyT t := by
  refine ⟨by rw [h.four]; omega, by rw [h.stan]; omega, ?_, ?_, by rw [h.sent]; omega⟩
  · rcases h.rrn with e | e
    · rw [e]; decide
    · rw [e]; omega
  · rcases h.acq with e | e
    · rw [e]; decide
    · rw [e]; omega
theorem ReadT.len {m : Msg} {t : Tr} (h : ReadT m t) : (keyL t).length = 35 := by
  have h1 : (t.1.extract 1 2).data.toList.length = 1 := by
    show (t.1.extract 1 2).size = 1
    rw [ByteArray.size_extract, h.four]; rfl
  have h2 : t.2.2.2.2.2.1.data.toList.length = 6 := h.stan
  have h3 : t.2.2.2.2.1.data.toList.length = 10 := h.sent
  have h4 := orL_16 h.rrn
  have h5 := orL_16 h.acq
  unfold keyL
  simp only [List.length_append]
  omega
theorem read_cases {m : Msg} (hg : goodM m) : (∃ e : Int, e ≠ 0 ∧ trade_Read.f m = some (zT, e) ∧ bursarref20_Read.f m = some (zT, e)) ∨
    ∃ i, (packF m).2 = 0 ∧ whose m.1 = some i ∧ (mAt i).2.2.1 = false ∧ okT m (mAt i).1 = true ∧ trade_Read.f m = some (trT m (m.1.extract 0 3 ++ bs [48]) (mAt i).1, 0) ∧ bursarref20_Read.f m = some (trT m (m.1.extract 0 3 ++ bs [48]) (mAt i).1, 0) := by
  by_cases hp : (packF m).2 = 0
  · obtain ⟨i, hw, _⟩ := packF_zero hp
    cases ha : (mAt i).2.2.1
    · cases ho : okT m (mAt i).1
      · refine .inl ⟨16, by decide, ?_, ?_⟩
        · rw [tradeRead_is hg hp hw ha, ho]; rfl
        · rw [refRead_is hg hp hw ha, ho]; rfl
      · refine .inr ⟨i, hp, hw, ha, ho, ?_, ?_⟩
        · rw [tradeRead_is hg hp hw ha, ho]; rfl
        · rw [refRead_is hg hp hw ha, ho]; rfl
    · exact .inl ⟨17, by decide, tradeRead_answer hg hp hw ha, refRead_answer hg hp hw ha⟩
  · exact .inl ⟨1, by decide, tradeRead_bad hg hp, refRead_bad hg hp⟩
def againB (i : Nat) : Bool := (mAt i).2.2.1 || (match whose ((tAt i).extract 0 3 ++ bs [49]) with
  | some j => (mAt j).1 == (mAt i).1 && !(mAt j).2.2.1
  | none => false) && decide (((tAt i).extract 0 3 ++ bs [49]).extract 0 3 = (tAt i).extract 0 3)
theorem again_all : ∀ i, i < 30 → againB i = true := by decide +kernel
theorem again_at {i : Nat} (hi : i < 30) (ha : (mAt i).2.2.1 = false) : ∃ j, whose ((tAt i).extract 0 3 ++ bs [49]) = some j ∧ (mAt j).1 = (mAt i).1 ∧ (mAt j).2.2.1 = false ∧ ((tAt i).extract 0 3 ++ bs [49]).extract 0 3 = (tAt i).extract 0 3 := by
  have h := again_all i hi
  unfold againB at h
  rw [ha, Bool.false_or, Bool.and_eq_true] at h
  obtain ⟨h1, h2⟩ := h
  cases hw : whose ((tAt i).extract 0 3 ++ bs [49]) with
  | none => rw [hw] at h1; cases h1
  | some j =>
    rw [hw] at h1
    simp only [Bool.and_eq_true, beq_iff_eq, Bool.not_eq_true'] at h1
    exact ⟨j, rfl, h1.1, h1.2, of_decide_eq_true h2⟩
theorem pack_again {m : Msg} {t : ByteArray} {j : Nat} (h : (packF m).2 = 0) (hw : whose t = some j) : (packF (t, m.2)).2 = 0 := by
  obtain ⟨i, _, h1, h2, h3, _⟩ := packF_zero h
  unfold packF
  simp only [hw, h1, h2, Bool.and_self, cond_true]
  rw [decide_eq_false (by omega)]
  rfl
theorem TradeReads_is (a : Msg) : bursarlaw20_TradeReads.f a = some true := by
  obtain ⟨m, hf, hg⟩ := few19_is a
  unfold bursarlaw20_TradeReads.f
  rw [hf, Option.bind_some]
  rcases read_cases hg with ⟨e, he, h1, h2⟩ | ⟨i, hp, hw, ha, ho, h1, h2⟩
  · have e1 : (e != 0) = true := by simpa using he
    simp only [h1, h2, Option.bind_some, BEq.rfl, Bool.and_self, Bool.not_true, cond_false, bne_self_eq_false, e1, cond_true, awake20]
  · have hr := readT_of hg hp hw ho
    obtain ⟨hi, ht⟩ := whose_lt hw
    obtain ⟨j, g1, g2, g3, g4⟩ := again_at hi ha
    rw [ht] at g1 g4
    have hga : goodM (m.1.extract 0 3 ++ bs [49], m.2) := hg
    have hpa := pack_again hp g1
    have h3 := tradeRead_is hga hpa g1 g3
    have hoa : okT (m.1.extract 0 3 ++ bs [49], m.2) (mAt j).1 = true := by rw [g2]; exact ho
    have h4 : m.1.size = 4 := by have := whose_len hw; simpa using this
    have d3 : decide ((3 : Int) ≤ (m.1.size : Int)) = true := decide_eq_true (by omega)
    have b3 : Nat.ble ((m.1.extract 0 3).size + 1) 9223372036854775807 = true := Nat.ble_eq_true_of_le (by rw [ByteArray.size_extract]; omega)
    have hta : trT (m.1.extract 0 3 ++ bs [49], m.2) ((m.1.extract 0 3 ++ bs [49]).extract 0 3 ++ bs [48]) (mAt j).1 = trT m (m.1.extract 0 3 ++ bs [48]) (mAt i).1 := by rw [g4, g2]; rfl
    simp only at h3
    rw [hoa, hta, cond_true] at h3
    have hpk : bursarref19_Pack.f (m.1.extract 0 3 ++ bs [49], m.2) = some (packF (m.1.extract 0 3 ++ bs [49], m.2)) := refIsoPack_is hga
    obtain ⟨t, hT⟩ : ∃ t, trT m (m.1.extract 0 3 ++ bs [48]) (mAt i).1 = t := ⟨_, rfl⟩
    rw [hT] at h1 h2 h3 hr
    have k1 := tradeKey_is hr.key
    have k2 := refKey_is hr.key
    have k3 : (((bs (keyL t)).size : Int) != 35) = false := by rw [bs_size, hr.len]; rfl
    simp only [h1, h2, Option.bind_some, BEq.rfl, Bool.and_self, Bool.not_true, cond_false, bne_self_eq_false, cond_true, k1, k2, k3, d3, b3, hpk, hpa, h3, awake20]
end Go.Proofs.YtpoiijkodpnobaaGreatDoor
end
section
set_option linter.unusedVariables false
set_option linter.unusedSimpArgs false
namespace Go.Proofs.YtpoiijkodpnobaaGreatDoor.tradeReads
open Go Go.Fw Go.ChangeShapes Go.WideShapes Go.ChangeAt Go.RowKit
theorem own : ownKnob Tryz.prog.godebug = none := by kernel_rfl
theorem laidOut : laidOutB Tryz.prog = true := by kernel_rfl
set_option maxRecDepth 100000 in
theorem told {W : World} (h : laidMetH Tryz.prog Rows.tradeReadsRow.laid W) : Glob ⟨W, fun b => b < W.heap.size, fun _ => False, fun _ => 0, fun _ => 0, G1⟩ := by
  rw [MakeChecks.laidMetH_plain _ _ _ (by kernel_rfl)] at h
  have f4 := globAt_tab (P := Tryz.prog) (g := 4) (k := .u64) (zs := [1, 10, 100, 1000, 10000, 100000, 1000000, 10000000, 100000000, 1000000000, 10000000000, 100000000000, 1000000000000, 10000000000000, 100000000000000, 1000000000000000, 10000000000000000, 100000000000000000, 1000000000000000000, 10000000000000000000]) (by kernel_rfl) (Lib.tabIs_of_head (g := 4) (by kernel_rfl) (by kernel_rfl) Tryz.underlying237 Tryz.underlying95 (by kernel_rfl) (by kernel_rfl) (laidMet.tail (laidMet.tail h)))
  have f3 := globAt_err (P := Tryz.prog) (g := 3) (by kernel_rfl) (laid_err (g := 3) (laidMet.tail (laidMet.tail (laidMet.tail (laidMet.tail h)))) (by kernel_rfl) (by kernel_rfl) Tryz.underlying141)
  have f2 := globAt_err (P := Tryz.prog) (g := 2) (by kernel_rfl) (laid_err (g := 2) (laidMet.tail (laidMet.tail (laidMet.tail (laidMet.tail (laidMet.tail h))))) (by kernel_rfl) (by kernel_rfl) Tryz.underlying141)
  have f8 := globAt_tab (P := Tryz.prog) (g := 8) (k := .u8) (zs := [0, 0, 0, 0, 0, 0, 0, 0, 0, 1, 1, 1, 1, 1, 0, 0, 0, 0, 0, 0, 0, 0, 0, 0, 0, 0, 0, 0, 0, 0, 0, 0, 1, 0, 0, 0, 0, 0, 0, 0, 0, 0, 0, 0, 0, 0, 0, 0, 0, 0, 0, 0, 0, 0, 0, 0, 0, 0, 0, 0, 0, 0, 0, 0, 0, 0, 0, 0, 0, 0, 0, 0, 0, 0, 0, 0, 0, 0, 0, 0, 0, 0, 0, 0, 0, 0, 0, 0, 0, 0, 0, 0, 0, 0, 0, 0, 0, 0, 0, 0, 0, 0, 0, 0, 0, 0, 0, 0, 0, 0, 0, 0, 0, 0, 0, 0, 0, 0, 0, 0, 0, 0, 0, 0, 0, 0, 0, 0, 0, 0, 0, 0, 0, 0, 0, 0, 0, 0, 0, 0, 0, 0, 0, 0, 0, 0, 0, 0, 0, 0, 0, 0, 0, 0, 0, 0, 0, 0, 0, 0, 0, 0, 0, 0, 0, 0, 0, 0, 0, 0, 0, 0, 0, 0, 0, 0, 0, 0, 0, 0, 0, 0, 0, 0, 0, 0, 0, 0, 0, 0, 0, 0, 0, 0, 0, 0, 0, 0, 0, 0, 0, 0, 0, 0, 0, 0, 0, 0, 0, 0, 0, 0, 0, 0, 0, 0, 0, 0, 0, 0, 0, 0, 0, 0, 0, 0, 0, 0, 0, 0, 0, 0, 0, 0, 0, 0, 0, 0, 0, 0, 0, 0, 0, 0, 0, 0, 0, 0, 0, 0, 0, 0, 0, 0, 0, 0]) (by kernel_rfl) (Lib.tabIs_of_head (g := 8) (by kernel_rfl) (by kernel_rfl) Tryz.underlying228 Tryz.underlying5 (by kernel_rfl) (by kernel_rfl) (laidMet.tail (laidMet.tail (laidMet.tail (laidMet.tail (laidMet.tail (laidMet.tail (laidMet.tail h))))))))
  exact (glob_cons f4 (glob_cons f8 (glob_cons f2 (glob_cons f3 glob_none'))))
set_option maxRecDepth 100000 in
theorem lifted (os : Os) (started : os.Started) (H : Type) (enc : TypeId × Value → H) :
    ReturnsInHanded {} Tryz.checked os 3 .any (fun w args => (Rows.tradeReadsSpec.pre enc Tryz.prog Tryz.f3 [] false w args ∧ laidMetH Tryz.prog Rows.tradeReadsRow.laid w) ∧ sizedMet enc Tryz.prog Tryz.f3 (OpenSpec.ofChange Rows.tradeReadsSpec) false w args)
      (Rows.tradeReadsSpec.post enc Tryz.prog Tryz.f3 false true false false) := by
  refine returnsInHanded_of_change_and (C := Tryz.checked) (X := fun w _ => laidMetH Tryz.prog Rows.tradeReadsRow.laid w) (fun _ _ _ hh h => h.of_heap hh) own started (by kernel_rfl) Tryz.func3
    (ChangeSpec.witness_shaped (enc := enc) (C := Tryz.checked) (os := os) (X := fun w _ => laidMetH Tryz.prog Rows.tradeReadsRow.laid w) false (World.laidAll Tryz.prog os Rows.tradeReadsRow.laid) #[.agg #[.string ByteArray.empty, .slice none 0 0]] 8 (World.laidAll_os _ _ _) (World.shaped_of_ZipB (by kernel_rfl) (by kernel_rfl)) (by kernel_rfl) (by kernel_rfl) (by kernel_rfl) (by rw [MakeChecks.laidMetH_plain _ _ _ (by kernel_rfl)]; exact laidMet_laidAll _ (by kernel_rfl) (by kernel_rfl))) ?_
  intro W base args ds gs before hval hW _ _ hL _
  exact law_call (P := Tryz.prog) (g := 3) (tb := Tryz.f3.resultTypes.getD 0 0) laidOut bursarlaw20_TradeReads.row_ok (told hL) (by kernel_rfl) (fun a => by kernel_rfl) (by kernel_rfl) (by kernel_rfl) rfl
    (fun ds h => match ds, h with | [_], _ => ⟨rfl, rfl, rfl⟩) (fun a ha => TradeReads_is a) hval hW
set_option maxRecDepth 100000 in
theorem over : Rows.tradeReadsRow.holds Tryz.pinned (OpenSpec.ofChange Rows.tradeReadsSpec) :=
  OpenClaim.holds_of_wide 3 Tryz.f3 rfl rfl rfl rfl rfl rfl rfl ⟨rfl, rfl, rfl, rfl, rfl⟩ rfl rfl rfl rfl rfl (by kernel_rfl) Tryz.func3 (by kernel_rfl)
    (of_decide_eq_true (by kernel_rfl)) (by unfold Func.isWrapper; first | (rw [if_pos (by decide +kernel)]; kernel_rfl) | (rw [if_neg (by decide +kernel)]; exact ⟨rfl, rfl⟩))
    (fun os started H enc _ => lifted os started H enc)
theorem plainParams : (Tryz.f3.params.toList.all fun t => !(Tryz.prog.wantsStandIn t)) = true := by kernel_rfl
theorem card : Rows.TradeReadsCardSaid :=
  Claim7.holds_tied_plain_at .later [] [.data, .data, .data, .data, .sentinel, .sentinel, .listed, .data, .pinned] true (true, "bf724d4f18b19264e7bd250bb3244673d72c77338245170921484629fefa8bc9") true
    over (fun _ h => by cases h) (by kernel_rfl) (fun _ h => by cases h) tradeReads_row_tie rfl ⟨rfl, rfl⟩ (by kernel_rfl) rfl
    (fun f fn hf hfn => by
      obtain rfl : f = 3 := Option.some.inj ((show Tryz.prog.funcNamed "bursar/bursarlaw20.TradeReads" = some 3 by kernel_rfl).symm.trans hf) |>.symm
      obtain rfl : fn = Tryz.f3 := (Option.some.inj (Tryz.func3.symm.trans hfn)).symm
      exact ⟨by kernel_rfl, fun j t ht => by
        have h := List.all_eq_true.1 plainParams t (by rw [← Array.getElem?_toList] at ht; exact List.mem_of_getElem? ht)
        exact (show Tryz.prog.wantsStandIn t = false by simpa using h)⟩)
    (by kernel_rfl)
end Go.Proofs.YtpoiijkodpnobaaGreatDoor.tradeReads
namespace Go.Proofs.YtpoiijkodpnobaaGreatDoor
theorem tradeReads_holds : Rows.TradeReadsCardSaid := tradeReads.card
#print axioms tradeReads_holds
end Go.Proofs.YtpoiijkodpnobaaGreatDoor
end
