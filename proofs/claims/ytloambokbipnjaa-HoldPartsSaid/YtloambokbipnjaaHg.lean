/- HoldParts: what is taken, and approved, in two goes and in one. By this session. -/
import Derived.Test.YtloambokbipnjaaHf
set_option linter.unusedVariables false
set_option linter.unusedSimpArgs false
namespace Go.Proofs.Ytloambokbipnjaa
open Go Go.Fw
theorem cut30_short (s : ByteArray) : shortB (cut30 s) = true := by
  unfold cut30 shortB
  by_cases h : (s.size : Int) > 30
  · simp only [h, decide_true, cond_true]
    rw [ByteArray.size_extract]
    exact Nat.ble_eq_true_of_le (by omega)
  · simp only [h, decide_false, cond_false]
    exact Nat.ble_eq_true_of_le (by omega)
theorem few_short (h : Hold) : h.few.short = true := by
  simp [Hold.few, Hold.short, cut30_short]
theorem zero_short : Hold.zero.short = true := by decide
theorem take_short {h : Hold} (hs : h.short = true) (m : Int) (l : Bool) : (h.take m l).1.short = true := by
  unfold Hold.take
  cases h.may <;> cases h.op <;> cases decide (m < 1) <;> cases decide (m > IntKind.wrap .i64 (h.app - h.cap)) <;> first | exact zero_short | exact hs
theorem more_short {h : Hold} (hs : h.short = true) (m t : Int) : (h.more m t).1.short = true := by
  unfold Hold.more
  cases h.may <;> cases h.op <;> cases decide (m < 1) <;> cases untilB t <;> cases fits (h.app + m) <;> first | exact zero_short | exact hs
/-- what is so where it is done -/
theorem take_ok {h : Hold} {m : Int} {l : Bool} (hk : (h.take m l).2 = 0) : h.may = true ∧ h.op = true ∧ 1 ≤ m ∧ m ≤ IntKind.wrap .i64 (h.app - h.cap) ∧
    (h.take m l).1 = ⟨h.rrn, h.acq, h.pan, h.app, IntKind.wrap .i64 (h.cap + m), h.til, bif !l then decide (IntKind.wrap .i64 (h.cap + m) < h.app) else false⟩ := by
  unfold Hold.take at hk ⊢
  cases h1 : h.may <;> rw [h1] at hk
  · cases hk
  cases h2 : h.op <;> rw [h2] at hk
  · cases hk
  by_cases h3 : m < 1
  · rw [decide_eq_true h3] at hk; cases hk
  by_cases h4 : m > IntKind.wrap .i64 (h.app - h.cap)
  · rw [decide_eq_false h3, decide_eq_true h4] at hk; cases hk
  rw [decide_eq_false h3, decide_eq_false h4]
  exact ⟨rfl, rfl, by omega, by omega, rfl⟩
theorem may_spec {h : Hold} : h.may = true ↔ refB h.rrn = true ∧ accB 1 h.pan = true ∧ accB 2 h.acq = true ∧ (0 ≤ h.til ∧ h.til ≤ 2147483647) ∧ 0 ≤ h.cap ∧ h.cap ≤ h.app ∧ (h.op = true → h.cap < h.app) := by
  unfold Hold.may untilB
  cases h.op <;> simp [and_assoc]
theorem take_is {h : Hold} {m : Int} {l : Bool} (h1 : h.may = true) (h2 : h.op = true) (h3 : 1 ≤ m) (h4 : m ≤ IntKind.wrap .i64 (h.app - h.cap)) :
    h.take m l = (⟨h.rrn, h.acq, h.pan, h.app, IntKind.wrap .i64 (h.cap + m), h.til, bif !l then decide (IntKind.wrap .i64 (h.cap + m) < h.app) else false⟩, 0) := by
  unfold Hold.take
  rw [h1, h2, decide_eq_false (by omega), decide_eq_false (by omega)]
  rfl
theorem fits_spec {n : Int} : fits n = true ↔ -9223372036854775808 ≤ n ∧ n ≤ 9223372036854775807 := by
  simp [fits]
theorem take_take {h : Hold} (hf : h.fit = true) {n m : Int} (hn : n ≤ 65535) (hm : m ≤ 65535) (h1 : (h.take n false).2 = 0) (h2 : ((h.take n false).1.take m false).2 = 0) :
    h.take (n + m) false = (h.take n false).1.take m false ∧ (h.take (n + m) false).2 = 0 := by
  obtain ⟨a1, a2, a3, a4, a5⟩ := take_ok h1
  simp only [Hold.fit, Bool.and_eq_true, fits_spec] at hf
  have b := may_spec.1 a1
  have w1 : IntKind.wrap .i64 (h.app - h.cap) = h.app - h.cap := wrap_i64 (by omega) (by omega)
  have w2 : IntKind.wrap .i64 (h.cap + n) = h.cap + n := wrap_i64 (by omega) (by omega)
  rw [w1] at a4
  rw [w2] at a5
  obtain ⟨c1, c2, c3, c4, c5⟩ := take_ok h2
  rw [a5] at c1 c2 c4 c5 ⊢
  simp only [Bool.not_false, cond_true] at c1 c2 c4 c5 ⊢
  have w3 : IntKind.wrap .i64 (h.app - (h.cap + n)) = h.app - (h.cap + n) := wrap_i64 (by omega) (by omega)
  rw [w3] at c4
  have e := take_is (l := false) a1 a2 (m := n + m) (by omega) (by rw [w1]; omega)
  have w4 : IntKind.wrap .i64 (h.cap + (n + m)) = h.cap + n + m := by rw [wrap_i64 (by omega) (by omega)]; omega
  have w5 : IntKind.wrap .i64 (h.cap + n + m) = h.cap + n + m := wrap_i64 (by omega) (by omega)
  have e2 := take_is (l := false) c1 c2 (m := m) c3 (by simp only []; rw [w3]; omega)
  rw [w4] at e
  simp only [] at e2
  rw [w5] at e2
  rw [e, e2]
  exact ⟨rfl, rfl⟩

theorem more_ok {h : Hold} {m t : Int} (hk : (h.more m t).2 = 0) : h.may = true ∧ h.op = true ∧ 1 ≤ m ∧ untilB t = true ∧ fits (h.app + m) = true ∧
    (h.more m t).1 = ⟨h.rrn, h.acq, h.pan, h.app + m, h.cap, t, decide (h.cap < h.app + m)⟩ := by
  unfold Hold.more at hk ⊢
  cases h1 : h.may <;> rw [h1] at hk
  · cases hk
  cases h2 : h.op <;> rw [h2] at hk
  · cases hk
  by_cases h3 : m < 1
  · rw [decide_eq_true h3] at hk; cases hk
  cases h4 : untilB t <;> rw [h4] at hk
  · rw [decide_eq_false h3] at hk; cases hk
  cases h5 : fits (h.app + m) <;> rw [h5] at hk
  · rw [decide_eq_false h3] at hk; cases hk
  rw [decide_eq_false h3]
  exact ⟨rfl, rfl, by omega, rfl, rfl, rfl⟩
theorem more_is {h : Hold} {m t : Int} (h1 : h.may = true) (h2 : h.op = true) (h3 : 1 ≤ m) (h4 : untilB t = true) (h5 : fits (h.app + m) = true) :
    h.more m t = (⟨h.rrn, h.acq, h.pan, h.app + m, h.cap, t, decide (h.cap < h.app + m)⟩, 0) := by
  unfold Hold.more
  rw [h1, h2, decide_eq_false (by omega), h4, h5]
  rfl
theorem more_more {h : Hold} {n m t u : Int} (h1 : (h.more n t).2 = 0) (h2 : ((h.more n t).1.more m u).2 = 0) :
    h.more (n + m) u = (h.more n t).1.more m u ∧ (h.more (n + m) u).2 = 0 := by
  obtain ⟨a1, a2, a3, a4, a5, a6⟩ := more_ok h1
  obtain ⟨c1, c2, c3, c4, c5, c6⟩ := more_ok h2
  have e2 := more_is c1 c2 c3 c4 c5
  rw [a6] at e2 c5 ⊢
  simp only [] at e2 c5
  have e1 := more_is (m := n + m) (t := u) a1 a2 (by omega) c4 (by rw [← Int.add_assoc]; exact c5)
  rw [e1, e2]
  rw [Int.add_assoc]
  exact ⟨rfl, rfl⟩
theorem less_is {h : Hold} {m : Int} (h1 : h.may = true) (h2 : h.op = true) (h3 : 1 ≤ m) (h4 : m ≤ IntKind.wrap .i64 (h.app - h.cap)) :
    h.less m = (⟨h.rrn, h.acq, h.pan, IntKind.wrap .i64 (h.app - m), h.cap, h.til, decide (h.cap < IntKind.wrap .i64 (h.app - m))⟩, 0) := by
  unfold Hold.less
  rw [h1, h2, decide_eq_false (by omega), decide_eq_false (by omega)]
  rfl
theorem more_less {h : Hold} (hf : h.fit = true) {n : Int} (hn : n ≤ 65535) (h1 : (h.more n h.til).2 = 0) : (h.more n h.til).1.less n = (h, 0) := by
  obtain ⟨a1, a2, a3, a4, a5, a6⟩ := more_ok h1
  simp only [Hold.fit, Bool.and_eq_true, fits_spec] at hf
  have b := may_spec.1 a1
  have b' := b.2.2.2.2.2.2 a2
  rw [fits_spec] at a5
  have hm : (h.more n h.til).1.may = true := by
    rw [a6]
    exact may_spec.2 ⟨b.1, b.2.1, b.2.2.1, b.2.2.2.1, b.2.2.2.2.1, by simp only []; omega, fun _ => by simp only []; omega⟩
  have ho : (h.more n h.til).1.op = true := by rw [a6]; exact decide_eq_true (by omega)
  have w1 : IntKind.wrap .i64 (h.app + n - h.cap) = h.app + n - h.cap := wrap_i64 (by omega) (by omega)
  have w2 : IntKind.wrap .i64 (h.app + n - n) = h.app := by rw [wrap_i64 (by omega) (by omega)]; omega
  have e := less_is hm ho a3 (by rw [a6]; simp only []; rw [w1]; omega)
  rw [e, a6]
  simp only [w2]
  have hop : decide (h.cap < h.app) = h.op := by rw [a2]; exact decide_eq_true b'
  rw [hop]
theorem more_fits (h : Hold) (m t : Int) (hf : fits h.app = true) : fits (h.more m t).1.app = true := by
  unfold Hold.more
  cases h.may <;> cases h.op <;> cases decide (m < 1) <;> cases untilB t <;> cases h5 : fits (h.app + m) <;> first | exact h5 | rfl
theorem bytes_same (s : ByteArray) : (s.toList == s.toList) = true := by simp
theorem parts_true (h : Hold) (hf : h.fit = true) (a b : Int) (a0 : 0 ≤ a) (a1 : a ≤ 65535) (b0 : 0 ≤ b) (b1 : b ≤ 65535) : pcallK P H9 (noLoops 0) 3 [h.d, .i .u16 a, .i .u16 b] some = some (.b true) := by
  rw [parts_tree]
  have wa : IntKind.wrap .i64 a = a := wrap_i64 (by omega) (by omega)
  have wb : IntKind.wrap .i64 b = b := wrap_i64 (by omega) (by omega)
  have wab : IntKind.wrap .i64 (a + b) = a + b := wrap_i64 (by omega) (by omega)
  rw [wa, wb, wab]
  have hs := few_short h
  have hff : h.few.fit = true := hf
  have f1 : fits h.few.app = true := by simp only [Hold.fit, Bool.and_eq_true] at hff; exact hff.1.1
  have f2 : fits a = true := fits_spec.2 (by omega)
  have f3 : fits b = true := fits_spec.2 (by omega)
  have f4 : fits (a + b) = true := fits_spec.2 (by omega)
  generalize h.few = x at hs hff f1 ⊢
  rw [hs, take_short hs, f1, f2, f3, f4, more_short hs, more_fits _ _ _ f1, more_short hs]
  simp only [Bool.and_self, cond_true]
  have tt : ((x.take a false).2 == (0 : Int)) = true → (((x.take a false).1.take b false).2 == (0 : Int)) = true → x.take (a + b) false = (x.take a false).1.take b false ∧ (x.take (a + b) false).2 = 0 := fun p q => take_take hff a1 b1 (by simpa using p) (by simpa using q)
  have mm : ((x.more a 5).2 == (0 : Int)) = true → (((x.more a 5).1.more b 7).2 == (0 : Int)) = true → x.more (a + b) 7 = (x.more a 5).1.more b 7 ∧ (x.more (a + b) 7).2 = 0 := fun p q => more_more (by simpa using p) (by simpa using q)
  have ml : ((x.more a x.til).2 != (0 : Int)) = false → (x.more a x.til).1.less a = (x, 0) := fun p => more_less hff a1 (by simpa using p)
  cases k1 : ((x.take a false).2 == (0 : Int)) <;> cases k2 : (((x.take a false).1.take b false).2 == (0 : Int)) <;> cases k3 : ((x.more a 5).2 == (0 : Int)) <;> cases k4 : (((x.more a 5).1.more b 7).2 == (0 : Int)) <;> cases k5 : ((x.more a x.til).2 != (0 : Int)) <;>
    simp [k1, k2, k3, k4] at tt mm <;> simp [k5] at ml <;> simp_all
end Go.Proofs.Ytloambokbipnjaa