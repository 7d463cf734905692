/- Part 4 of what the proof of this statement stands on: Trades of two messages have the same key just if their class, trace, reference, acquirer and time are the same. -/
import Derived.Laws.Strings
import Derived.Lib.Bytealg
import Derived.Lib.ParseIntB
import Derived.Lib.ItoaNum
import Derived.Laws.RangeString
import Derived.Shelf.Strconv.Itoa1
import Derived.Shelf.Strconv.Itoa2
import Derived.Shelf.LaysM
import Derived.Test.YtpoiijkodpnobaaGreatDoorProg
import Derived.Lib.Walk
import Derived.Lib.ItoaMem
import Derived.WalkKit
import Derived.BigCall
import Derived.BigGuard
import Derived.Deep.Draws
import Derived.Shelf.Pu.ParseUintPublic10
import Derived.Shelf.Pu.ErrVarParseUint
import Derived.Shelf.Strconv.ErrVarAll
import Derived.Shelf.Strings.Repeat
import Derived.Shelf.Strconv.Itoa3
import Derived.Shelf.Strings.Fields
import Derived.Test.YtpoiijkodpnobaaGreatDoorKTradeKeys3
section
set_option linter.unusedVariables false
set_option maxRecDepth 100000
namespace Go.Proofs.YtpoiijkodpnobaaGreatDoor
open Go Go.Fw
abbrev digit_All.As : Shs := (.cons (.x .s) .nil)
abbrev digit_All.m : Back := [(false, .b)]
noncomputable abbrev digit_All.H : HK := hk P G0 E0 J0 [] noLoops 4
theorem digit_All.rows : TabOK P G0 (tabF []) := rows_ok (ws := []) trivial
theorem digit_All.hok : HKOK P digit_All.H := hk_ok e0_ok j0_ok digit_All.rows (fun g n => noLoops_ok g n) 4
noncomputable abbrev digit_All.sh3 : SSh := ⟨[(0, (.x .s)), (5, (.x (.i .i64))), (6, (.x (.i .i64)))], []⟩
noncomputable abbrev digit_All.os3 : PEnds := [(.ret, ⟨[(2, (.x .b))], []⟩), ((.exit 0), ⟨[], []⟩)]
noncomputable def digit_All.t3 (s : (ByteArray × (Int × Int))) : Option ((ByteArray × (Int × Int)) ⊕ (Bool ⊕ Unit)) := (bif (decide ((s.2.2 < s.2.1))) then (bif ((decide (((0 : Int) ≤ s.2.2))) && (decide ((s.2.2 < (s.1.size : Int))))) then (bif (decide (((bt s.1 (Int.toNat s.2.2)) < (48 : Int)))) then (some (.inr (.inl false))) else (bif ((decide (((0 : Int) ≤ s.2.2))) && (decide ((s.2.2 < (s.1.size : Int))))) then (bif (decide (((bt s.1 (Int.toNat s.2.2)) > (57 : Int)))) then (some (.inr (.inl false))) else (some (.inl (s.1, (s.2.1, (IntKind.wrap .i64 (s.2.2 + (1 : Int)))))))) else none)) else none) else (some (.inr (.inr ()))))
theorem digit_All.t3_ok : ∀ s : Vals digit_All.sh3.tys, turnK P digit_All.H (lp []) (bodyAt (codeOf P 85) 3) 0 digit_All.sh3 digit_All.os3 s some = digit_All.t3 s := fun s => by kernel_rfl
noncomputable def digit_All.l3 : (ByteArray × (Int × Int)) → Option (Bool ⊕ Unit) := rounds digit_All.t3
noncomputable def digit_All.f (a : ByteArray) : Option Bool := (((digit_All.l3 (a, ((a.size : Int), (0 : Int))))).bind fun x1 => (match x1 with | .inl x2 => (some x2) | .inr x2 => (some true)))
theorem digit_All.ok : ∀ a : Vals digit_All.As.tys, fnK P digit_All.H (lp [(3, (NodeT.summ ⟨digit_All.sh3, digit_All.os3, digit_All.l3⟩ 0))]) 85 digit_All.As digit_All.m a some = digit_All.f a := fun a => by kernel_rfl
noncomputable abbrev digit_All.row : Row := fnRow 85 digit_All.As digit_All.m digit_All.f
theorem digit_All.row_ok : RowOK P G0 digit_All.row := row_told digit_All.hok (lp_of (l := [(3, (NodeT.summ ⟨digit_All.sh3, digit_All.os3, digit_All.l3⟩ 0))]) ⟨(loop_sum digit_All.hok (by kernel_rfl) (by kernel_rfl) (l := []) trivial digit_All.sh3 digit_All.os3 (by kernel_rfl) digit_All.t3 digit_All.t3_ok), trivial⟩) (fun _ => rfl) digit_All.ok
abbrev digit_sum.As : Shs := (.cons (.x .s) .nil)
abbrev digit_sum.m : Back := [(false, (.i .i64))]
noncomputable abbrev digit_sum.H : HK := hk P G0 E0 J0 [] noLoops 4
theorem digit_sum.rows : TabOK P G0 (tabF []) := rows_ok (ws := []) trivial
theorem digit_sum.hok : HKOK P digit_sum.H := hk_ok e0_ok j0_ok digit_sum.rows (fun g n => noLoops_ok g n) 4
noncomputable abbrev digit_sum.sh5 : SSh := ⟨[(0, (.x .s)), (3, (.fn 166 .nil)), (4, (.x (.i .i64))), (8, (.x (.i .i64))), (9, (.x (.i .i64)))], []⟩
noncomputable abbrev digit_sum.os5 : PEnds := [((.exit 0), ⟨[(4, (.x (.i .i64)))], []⟩)]
noncomputable def digit_sum.t5 (s : (ByteArray × (Int × (Int × Int)))) : Option ((ByteArray × (Int × (Int × Int))) ⊕ (Int)) := (bif (decide ((s.2.2.2 < s.2.2.1))) then (bif ((decide (((0 : Int) ≤ (IntKind.wrap .i64 ((IntKind.wrap .i64 ((s.1.size : Int) - (1 : Int))) - s.2.2.2))))) && (decide (((IntKind.wrap .i64 ((IntKind.wrap .i64 ((s.1.size : Int) - (1 : Int))) - s.2.2.2)) < (s.1.size : Int))))) then (bif ((Int.tmod s.2.2.2 (2 : Int)) == (1 : Int)) then (some (.inl (s.1, ((IntKind.wrap .i64 (s.2.1 + (IntKind.wrap .i64 ((IntKind.wrap .i64 ((2 : Int) * (IntKind.wrap .i64 (IntKind.wrap .u8 ((bt s.1 (Int.toNat (IntKind.wrap .i64 ((IntKind.wrap .i64 ((s.1.size : Int) - (1 : Int))) - s.2.2.2)))) - (48 : Int)))))) - (IntKind.wrap .i64 ((9 : Int) * (IntKind.wrap .i64 (Int.tdiv (IntKind.wrap .i64 (IntKind.wrap .u8 ((bt s.1 (Int.toNat (IntKind.wrap .i64 ((IntKind.wrap .i64 ((s.1.size : Int) - (1 : Int))) - s.2.2.2)))) - (48 : Int)))) (5 : Int))))))))), (s.2.2.1, (IntKind.wrap .i64 (s.2.2.2 + (1 : Int)))))))) else (some (.inl (s.1, ((IntKind.wrap .i64 (s.2.1 + (IntKind.wrap .i64 (IntKind.wrap .u8 ((bt s.1 (Int.toNat (IntKind.wrap .i64 ((IntKind.wrap .i64 ((s.1.size : Int) - (1 : Int))) - s.2.2.2)))) - (48 : Int)))))), (s.2.2.1, (IntKind.wrap .i64 (s.2.2.2 + (1 : Int))))))))) else none) else (some (.inr s.2.1)))
theorem digit_sum.t5_ok : ∀ s : Vals digit_sum.sh5.tys, turnK P digit_sum.H (lp []) (bodyAt (codeOf P 136) 5) 0 digit_sum.sh5 digit_sum.os5 s some = digit_sum.t5 s := fun s => by kernel_rfl
noncomputable def digit_sum.l5 : (ByteArray × (Int × (Int × Int))) → Option (Int) := rounds digit_sum.t5
noncomputable def digit_sum.f (a : ByteArray) : Option Int := (((digit_sum.l5 (a, ((0 : Int), ((a.size : Int), (0 : Int)))))).bind fun x1 => (some x1))
theorem digit_sum.ok : ∀ a : Vals digit_sum.As.tys, fnK P digit_sum.H (lp [(5, (NodeT.summ ⟨digit_sum.sh5, digit_sum.os5, digit_sum.l5⟩ 0))]) 136 digit_sum.As digit_sum.m a some = digit_sum.f a := fun a => by kernel_rfl
noncomputable abbrev digit_sum.row : Row := fnRow 136 digit_sum.As digit_sum.m digit_sum.f
theorem digit_sum.row_ok : RowOK P G0 digit_sum.row := row_told digit_sum.hok (lp_of (l := [(5, (NodeT.summ ⟨digit_sum.sh5, digit_sum.os5, digit_sum.l5⟩ 0))]) ⟨(loop_sum digit_sum.hok (by kernel_rfl) (by kernel_rfl) (l := []) trivial digit_sum.sh5 digit_sum.os5 (by kernel_rfl) digit_sum.t5 digit_sum.t5_ok), trivial⟩) (fun _ => rfl) digit_sum.ok
abbrev digit_Sound.As : Shs := (.cons (.x .s) .nil)
abbrev digit_Sound.m : Back := [(false, .b)]
noncomputable abbrev digit_Sound.H : HK := hk P G0 E0 J0 [digit_All.row, digit_sum.row] noLoops 4
theorem digit_Sound.rows : TabOK P G0 (tabF [digit_All.row, digit_sum.row]) := rows_ok (ws := [digit_All.row, digit_sum.row]) ⟨digit_All.row_ok, ⟨digit_sum.row_ok, trivial⟩⟩
theorem digit_Sound.hok : HKOK P digit_Sound.H := hk_ok e0_ok j0_ok digit_Sound.rows (fun g n => noLoops_ok g n) 4
noncomputable def digit_Sound.f (a : ByteArray) : Option Bool := (bif (decide (((a.size : Int) ≥ (2 : Int)))) then (((digit_All.f a)).bind fun x1 => (bif x1 then (((digit_sum.f a)).bind fun x2 => (some ((Int.tmod x2 (10 : Int)) == (0 : Int)))) else (some false))) else (some false))
theorem digit_Sound.ok : ∀ a : Vals digit_Sound.As.tys, fnK P digit_Sound.H (lp []) 102 digit_Sound.As digit_Sound.m a some = digit_Sound.f a := fun a => by kernel_rfl
noncomputable abbrev digit_Sound.row : Row := fnRow 102 digit_Sound.As digit_Sound.m digit_Sound.f
theorem digit_Sound.row_ok : RowOK P G0 digit_Sound.row := row_told digit_Sound.hok (lp_of (l := []) trivial) (fun _ => rfl) digit_Sound.ok
noncomputable def bursarref02_All.t3 (s : (ByteArray × Int)) : Option ((ByteArray × Int) ⊕ (Bool ⊕ Unit)) := (bif (decide ((s.2 < (s.1.size : Int)))) then (bif ((decide (((0 : Int) ≤ s.2))) && (decide ((s.2 < (s.1.size : Int))))) then (bif (decide (((bt s.1 (Int.toNat s.2)) < (48 : Int)))) then (some (.inr (.inl false))) else (bif ((decide (((0 : Int) ≤ s.2))) && (decide ((s.2 < (s.1.size : Int))))) then (bif (decide (((bt s.1 (Int.toNat s.2)) > (57 : Int)))) then (some (.inr (.inl false))) else (some (.inl (s.1, (IntKind.wrap .i64 (s.2 + (1 : Int))))))) else none)) else none) else (some (.inr (.inr ()))))
noncomputable def bursarref02_All.l3 : (ByteArray × Int) → Option (Bool ⊕ Unit) := rounds bursarref02_All.t3
noncomputable def bursarref02_All.f (a : ByteArray) : Option Bool := (((bursarref02_All.l3 (a, (0 : Int)))).bind fun x1 => (match x1 with | .inl x2 => (some x2) | .inr x2 => (some true)))
noncomputable def bursarref02_Sound.t7 (s : (ByteArray × (Int × Int))) : Option ((ByteArray × (Int × Int)) ⊕ (Int)) := (bif (decide ((s.2.2 < (s.1.size : Int)))) then (bif ((decide (((0 : Int) ≤ s.2.2))) && (decide ((s.2.2 < (s.1.size : Int))))) then (bif ((Int.tmod (IntKind.wrap .i64 ((s.1.size : Int) - s.2.2)) (2 : Int)) == (0 : Int)) then (bif (decide (((IntKind.wrap .i64 ((2 : Int) * (IntKind.wrap .i64 ((IntKind.wrap .i64 (bt s.1 (Int.toNat s.2.2))) - (48 : Int))))) > (9 : Int)))) then (some (.inl (s.1, ((IntKind.wrap .i64 (s.2.1 + (IntKind.wrap .i64 ((IntKind.wrap .i64 ((2 : Int) * (IntKind.wrap .i64 ((IntKind.wrap .i64 (bt s.1 (Int.toNat s.2.2))) - (48 : Int))))) - (9 : Int))))), (IntKind.wrap .i64 (s.2.2 + (1 : Int))))))) else (some (.inl (s.1, ((IntKind.wrap .i64 (s.2.1 + (IntKind.wrap .i64 ((2 : Int) * (IntKind.wrap .i64 ((IntKind.wrap .i64 (bt s.1 (Int.toNat s.2.2))) - (48 : Int))))))), (IntKind.wrap .i64 (s.2.2 + (1 : Int)))))))) else (some (.inl (s.1, ((IntKind.wrap .i64 (s.2.1 + (IntKind.wrap .i64 ((IntKind.wrap .i64 (bt s.1 (Int.toNat s.2.2))) - (48 : Int))))), (IntKind.wrap .i64 (s.2.2 + (1 : Int)))))))) else none) else (some (.inr s.2.1)))
noncomputable def bursarref02_Sound.l7 : (ByteArray × (Int × Int)) → Option (Int) := rounds bursarref02_Sound.t7
noncomputable def bursarref02_Sound.f (a : ByteArray) : Option Bool := (bif (decide (((a.size : Int) < (2 : Int)))) then (some false) else (((bursarref02_All.f a)).bind fun x1 => (bif (!x1) then (some false) else (((bursarref02_Sound.l7 (a, ((0 : Int), (0 : Int))))).bind fun x2 => (some ((Int.tmod x2 (10 : Int)) == (0 : Int)))))))
end Go.Proofs.YtpoiijkodpnobaaGreatDoor
end
section
set_option linter.unusedVariables false
set_option linter.unusedSimpArgs false
namespace Go.Proofs.YtpoiijkodpnobaaGreatDoor
open Go Go.Fw
def digC (s : ByteArray) (i : Nat) : Bool := decide (48 ≤ bt s i) && decide (bt s i ≤ 57)
def digitsB (s : ByteArray) : Bool := (List.range s.size).all (digC s)
theorem digit_All_is (s : ByteArray) (hs : s.size ≤ 4611686018427387904) : digit_All.f s = some (digitsB s) := by
  have h := rounds_all (t := digit_All.t3) (fun i => (s, ((s.size : Int), (i : Int)))) (digC s) (.inl false) (.inr ()) s.size (fun i hi => by
    have := bt_bound s i
    have := wrap_up (n := i) (by omega)
    grind [digit_All.t3, digC]) (by simp [digit_All.t3])
  unfold digit_All.f digit_All.l3
  rw [show ((0 : Int)) = ((0 : Nat) : Int) from rfl, h]
  unfold digitsB
  cases (List.range s.size).all (digC s) <;> rfl
theorem ref_All_is (s : ByteArray) (hs : s.size ≤ 4611686018427387904) : bursarref02_All.f s = some (digitsB s) := by
  have h := rounds_all (t := bursarref02_All.t3) (fun i => (s, (i : Int))) (digC s) (.inl false) (.inr ()) s.size (fun i hi => by
    have := bt_bound s i
    have := wrap_up (n := i) (by omega)
    grind [bursarref02_All.t3, digC]) (by simp [bursarref02_All.t3])
  unfold bursarref02_All.f bursarref02_All.l3
  rw [show ((0 : Int)) = ((0 : Nat) : Int) from rfl, h]
  unfold digitsB
  cases (List.range s.size).all (digC s) <;> rfl
theorem digits_at {s : ByteArray} (h : digitsB s = true) {i : Nat} (hi : i < s.size) : 48 ≤ bt s i ∧ bt s i ≤ 57 := by
  unfold digitsB at h
  rw [List.all_eq_true] at h
  simpa [digC] using h i (List.mem_range.2 hi)
def term (s : ByteArray) (j : Nat) : Int := bif (s.size - j) % 2 == 0 then (bif decide (2 * (bt s j - 48) > 9) then 2 * (bt s j - 48) - 9 else 2 * (bt s j - 48)) else bt s j - 48
def luhn (s : ByteArray) : Int := sumTo (term s) s.size
theorem term_bound {s : ByteArray} (h : digitsB s = true) {j : Nat} (hj : j < s.size) : 0 ≤ term s j ∧ term s j ≤ 9 := by
  have := digits_at h hj
  grind [term]
theorem digit_sum_is (s : ByteArray) (hs : s.size ≤ 576460752303423488) (hd : digitsB s = true) : digit_sum.f s = some (luhn s) := by
  have hb : ∀ n, n ≤ s.size → 0 ≤ sumTo (fun j => term s (s.size - 1 - j)) n ∧ sumTo (fun j => term s (s.size - 1 - j)) n ≤ 9 * n := fun n hn => sumTo_bound fun j hj => term_bound hd (by omega)
  have h := rounds_to (t := digit_sum.t5) (fun i => (s, (sumTo (fun j => term s (s.size - 1 - j)) i, ((s.size : Int), (i : Int))))) s.size (fun i hi => by
    have h1 := digits_at hd (i := s.size - 1 - i) (by omega)
    have h2 := wrap_up (n := i) (by omega)
    have h3 : IntKind.wrap .i64 ((s.size : Int) - 1) = (s.size : Int) - 1 := wrap_i64 (by omega) (by omega)
    have h4 : IntKind.wrap .i64 ((s.size : Int) - 1 - i) = ((s.size - 1 - i : Nat) : Int) := by rw [wrap_i64 (by omega) (by omega)]; omega
    have h5 : term s (s.size - 1 - i) = bif (i : Int).tmod 2 == 1 then 2 * (bt s (s.size - 1 - i) - 48) - 9 * ((bt s (s.size - 1 - i) - 48) / 5) else bt s (s.size - 1 - i) - 48 := by
      have e : ((i : Int).tmod 2 == 1) = ((s.size - (s.size - 1 - i)) % 2 == 0) := by
        rw [Int.tmod_eq_emod_of_nonneg (by omega)]
        rw [Bool.eq_iff_iff]; simp only [beq_iff_eq]; omega
      rw [e]
      unfold term
      cases ((s.size - (s.size - 1 - i)) % 2 == 0) with
      | false => rfl
      | true =>
        simp only [cond_true]
        by_cases hx : 2 * (bt s (s.size - 1 - i) - 48) > 9
        · rw [decide_eq_true hx]; simp only [cond_true]; omega
        · rw [decide_eq_false hx]; simp only [cond_false]; omega
    have hbi := hb i (by omega)
    have hbt := term_bound hd (j := s.size - 1 - i) (by omega)
    simp only [digit_sum.t5, h3, h4, Int.toNat_natCast, sumTo, h2]
    rw [h5] at hbt ⊢
    generalize sumTo (fun j => term s (s.size - 1 - j)) i = T at hbi ⊢
    generalize bt s (s.size - 1 - i) = d at h1 hbt ⊢
    have w1 : IntKind.wrap .u8 (d - 48) = d - 48 := by rw [wrap_u8]; omega
    have w2 : IntKind.wrap .i64 (d - 48) = d - 48 := wrap_i64 (by omega) (by omega)
    have w3 : IntKind.wrap .i64 (2 * (d - 48)) = 2 * (d - 48) := wrap_i64 (by omega) (by omega)
    have w4 : Int.tdiv (d - 48) 5 = (d - 48) / 5 := Int.tdiv_eq_ediv_of_nonneg (by omega)
    have w5 : IntKind.wrap .i64 ((d - 48) / 5) = (d - 48) / 5 := wrap_i64 (by omega) (by omega)
    have w6 : IntKind.wrap .i64 (9 * ((d - 48) / 5)) = 9 * ((d - 48) / 5) := wrap_i64 (by omega) (by omega)
    have w7 : IntKind.wrap .i64 (2 * (d - 48) - 9 * ((d - 48) / 5)) = 2 * (d - 48) - 9 * ((d - 48) / 5) := wrap_i64 (by omega) (by omega)
    have w8 : IntKind.wrap .i64 (T + (2 * (d - 48) - 9 * ((d - 48) / 5))) = T + (2 * (d - 48) - 9 * ((d - 48) / 5)) := wrap_i64 (by omega) (by omega)
    have w9 : IntKind.wrap .i64 (T + (d - 48)) = T + (d - 48) := wrap_i64 (by omega) (by omega)
    rw [w1, w2, w3, w4, w5, w6, w7, w8, w9]
    have g1 : decide ((i : Int) < (s.size : Int)) = true := decide_eq_true (by omega)
    have g2 : decide ((0 : Int) ≤ ((s.size - 1 - i : Nat) : Int)) = true := decide_eq_true (by omega)
    have g3 : decide (((s.size - 1 - i : Nat) : Int) < (s.size : Int)) = true := decide_eq_true (by omega)
    rw [g1, g2, g3]
    cases ((i : Int).tmod 2 == 1) <;> rfl)
  unfold digit_sum.f digit_sum.l5
  have h0 : (s, ((0 : Int), ((s.size : Int), (0 : Int)))) = (s, (sumTo (fun j => term s (s.size - 1 - j)) 0, ((s.size : Int), ((0 : Nat) : Int)))) := rfl
  rw [h0, h, sumTo_back, rounds_end (r := luhn s) (by simp [digit_sum.t5, luhn])]
  rfl
theorem digit_Sound_is (s : ByteArray) (hs : s.size ≤ 576460752303423488) : digit_Sound.f s = some (decide (2 ≤ s.size) && (digitsB s && (luhn s % 10 == 0))) := by
  have hl : digitsB s = true → 0 ≤ luhn s := fun hd => (sumTo_bound (f := term s) (b := 9) (n := s.size) fun j hj => term_bound hd hj).1
  unfold digit_Sound.f
  rw [digit_All_is s (by omega)]
  by_cases h2 : 2 ≤ s.size
  · rw [show decide ((s.size : Int) ≥ 2) = true from decide_eq_true (by omega), decide_eq_true h2]
    cases hd : digitsB s with
    | false => rfl
    | true => simp only [Option.bind_some, cond_true, digit_sum_is s hs hd, Bool.true_and, Int.tmod_eq_emod_of_nonneg (hl hd)]
  · rw [show decide ((s.size : Int) ≥ 2) = false from decide_eq_false (by omega), decide_eq_false h2]; rfl
theorem ref_Sound_is (s : ByteArray) (hs : s.size ≤ 576460752303423488) : bursarref02_Sound.f s = some (decide (2 ≤ s.size) && (digitsB s && (luhn s % 10 == 0))) := by
  unfold bursarref02_Sound.f
  rw [ref_All_is s (by omega)]
  by_cases h2 : 2 ≤ s.size
  · rw [show decide ((s.size : Int) < 2) = false from decide_eq_false (by omega), decide_eq_true h2]
    cases hd : digitsB s with
    | false => rfl
    | true =>
      have hb : ∀ n, n ≤ s.size → 0 ≤ sumTo (term s) n ∧ sumTo (term s) n ≤ 9 * n := fun n hn => sumTo_bound fun j hj => term_bound hd (by omega)
      have h := rounds_to (t := bursarref02_Sound.t7) (fun i => (s, (sumTo (term s) i, (i : Int)))) s.size (fun i hi => by
        have h1 := digits_at hd (i := i) hi
        have h2 := wrap_up (n := i) (by omega)
        have h3 : IntKind.wrap .i64 ((s.size : Int) - i) = ((s.size - i : Nat) : Int) := by rw [wrap_i64 (by omega) (by omega)]; omega
        have h5 : ((((s.size - i : Nat) : Int).tmod 2) == 0) = ((s.size - i) % 2 == 0) := by
          rw [Int.tmod_eq_emod_of_nonneg (by omega), Bool.eq_iff_iff]; simp only [beq_iff_eq]; omega
        have hbi := hb i (by omega)
        simp only [bursarref02_Sound.t7, h3, h5, Int.toNat_natCast, sumTo, h2, term]
        generalize sumTo (term s) i = T at hbi ⊢
        have w1 : IntKind.wrap .i64 (bt s i) = bt s i := wrap_i64 (by omega) (by omega)
        have w2 : IntKind.wrap .i64 (bt s i - 48) = bt s i - 48 := wrap_i64 (by omega) (by omega)
        have w3 : IntKind.wrap .i64 (2 * (bt s i - 48)) = 2 * (bt s i - 48) := wrap_i64 (by omega) (by omega)
        have w7 : IntKind.wrap .i64 (2 * (bt s i - 48) - 9) = 2 * (bt s i - 48) - 9 := wrap_i64 (by omega) (by omega)
        have w8 : IntKind.wrap .i64 (T + (2 * (bt s i - 48) - 9)) = T + (2 * (bt s i - 48) - 9) := wrap_i64 (by omega) (by omega)
        have w9 : IntKind.wrap .i64 (T + (bt s i - 48)) = T + (bt s i - 48) := wrap_i64 (by omega) (by omega)
        have w10 : IntKind.wrap .i64 (T + 2 * (bt s i - 48)) = T + 2 * (bt s i - 48) := wrap_i64 (by omega) (by omega)
        simp only [w1, w2, w3, w7, w8, w9, w10]
        have g1 : decide ((i : Int) < (s.size : Int)) = true := decide_eq_true (by omega)
        have g2 : decide ((0 : Int) ≤ (i : Int)) = true := decide_eq_true (by omega)
        simp only [g1, g2, Bool.and_self, cond_true]
        cases ((s.size - i) % 2 == 0)
        · rfl
        · cases decide (2 * (bt s i - 48) > 9) <;> rfl)
      have h0 : (s, ((0 : Int), (0 : Int))) = (s, (sumTo (term s) 0, ((0 : Nat) : Int))) := rfl
      have hl := (hb s.size (Nat.le_refl _)).1
      unfold bursarref02_Sound.l7
      simp only [Option.bind_some, cond_true, cond_false, Bool.not_true, Bool.true_and]
      rw [h0, h, rounds_end (r := luhn s) (by simp [bursarref02_Sound.t7, luhn])]
      simp only [Option.bind_some, Int.tmod_eq_emod_of_nonneg (show 0 ≤ luhn s from hl)]
  · rw [show decide ((s.size : Int) < 2) = true from decide_eq_true (by omega), decide_eq_false h2]; rfl
end Go.Proofs.YtpoiijkodpnobaaGreatDoor
end
section
set_option linter.unusedVariables false
set_option maxRecDepth 100000
namespace Go.Proofs.YtpoiijkodpnobaaGreatDoor
open Go Go.Fw
abbrev hold_Ref.As : Shs := (.cons (.x .s) .nil)
abbrev hold_Ref.m : Back := [(false, .b)]
noncomputable abbrev hold_Ref.H : HK := hk P G0 E0 J0 [] noLoops 4
theorem hold_Ref.rows : TabOK P G0 (tabF []) := rows_ok (ws := []) trivial
theorem hold_Ref.hok : HKOK P hold_Ref.H := hk_ok e0_ok j0_ok hold_Ref.rows (fun g n => noLoops_ok g n) 4
noncomputable abbrev hold_Ref.sh3 : SSh := ⟨[(0, (.x .s)), (6, (.x (.i .i64))), (7, (.x (.i .i64)))], []⟩
noncomputable abbrev hold_Ref.os3 : PEnds := [(.ret, ⟨[(2, (.x .b))], []⟩), ((.exit 0), ⟨[(0, (.x .s))], []⟩)]
noncomputable def hold_Ref.t3 (s : (ByteArray × (Int × Int))) : Option ((ByteArray × (Int × Int)) ⊕ (Bool ⊕ ByteArray)) := (bif (decide ((s.2.2 < s.2.1))) then (bif ((decide (((0 : Int) ≤ s.2.2))) && (decide ((s.2.2 < (s.1.size : Int))))) then (bif (decide (((bt s.1 (Int.toNat s.2.2)) < (48 : Int)))) then (bif (decide (((bt s.1 (Int.toNat s.2.2)) < (65 : Int)))) then (some (.inr (.inl false))) else (bif (decide (((bt s.1 (Int.toNat s.2.2)) > (90 : Int)))) then (some (.inr (.inl false))) else (some (.inl (s.1, (s.2.1, (IntKind.wrap .i64 (s.2.2 + (1 : Int))))))))) else (bif (decide (((bt s.1 (Int.toNat s.2.2)) > (57 : Int)))) then (bif (decide (((bt s.1 (Int.toNat s.2.2)) < (65 : Int)))) then (some (.inr (.inl false))) else (bif (decide (((bt s.1 (Int.toNat s.2.2)) > (90 : Int)))) then (some (.inr (.inl false))) else (some (.inl (s.1, (s.2.1, (IntKind.wrap .i64 (s.2.2 + (1 : Int))))))))) else (some (.inl (s.1, (s.2.1, (IntKind.wrap .i64 (s.2.2 + (1 : Int))))))))) else none) else (some (.inr (.inr s.1))))
theorem hold_Ref.t3_ok : ∀ s : Vals hold_Ref.sh3.tys, turnK P hold_Ref.H (lp []) (bodyAt (codeOf P 49) 3) 0 hold_Ref.sh3 hold_Ref.os3 s some = hold_Ref.t3 s := fun s => by kernel_rfl
noncomputable def hold_Ref.l3 : (ByteArray × (Int × Int)) → Option (Bool ⊕ ByteArray) := rounds hold_Ref.t3
noncomputable def hold_Ref.f (a : ByteArray) : Option Bool := (((hold_Ref.l3 (a, ((a.size : Int), (0 : Int))))).bind fun x1 => (match x1 with | .inl x2 => (some x2) | .inr x2 => (some ((x2.size : Int) == (12 : Int)))))
theorem hold_Ref.ok : ∀ a : Vals hold_Ref.As.tys, fnK P hold_Ref.H (lp [(3, (NodeT.summ ⟨hold_Ref.sh3, hold_Ref.os3, hold_Ref.l3⟩ 0))]) 49 hold_Ref.As hold_Ref.m a some = hold_Ref.f a := fun a => by kernel_rfl
noncomputable abbrev hold_Ref.row : Row := fnRow 49 hold_Ref.As hold_Ref.m hold_Ref.f
theorem hold_Ref.row_ok : RowOK P G0 hold_Ref.row := row_told hold_Ref.hok (lp_of (l := [(3, (NodeT.summ ⟨hold_Ref.sh3, hold_Ref.os3, hold_Ref.l3⟩ 0))]) ⟨(loop_sum hold_Ref.hok (by kernel_rfl) (by kernel_rfl) (l := []) trivial hold_Ref.sh3 hold_Ref.os3 (by kernel_rfl) hold_Ref.t3 hold_Ref.t3_ok), trivial⟩) (fun _ => rfl) hold_Ref.ok
abbrev chart_May.As : Shs := (.cons (.x T_api_Account) .nil)
abbrev chart_May.m : Back := [(false, .b)]
noncomputable abbrev chart_May.H : HK := hk P G0 E0 J0 [digit_All.row, digit_Sound.row] noLoops 4
theorem chart_May.rows : TabOK P G0 (tabF [digit_All.row, digit_Sound.row]) := rows_ok (ws := [digit_All.row, digit_Sound.row]) ⟨digit_All.row_ok, ⟨digit_Sound.row_ok, trivial⟩⟩
theorem chart_May.hok : HKOK P chart_May.H := hk_ok e0_ok j0_ok chart_May.rows (fun g n => noLoops_ok g n) 4
noncomputable def chart_May.f (a : (Int × ByteArray)) : Option Bool := (bif (a.1 == (1 : Int)) then (bif ((a.2.size : Int) == (16 : Int)) then (((digit_Sound.f a.2)).bind fun x1 => (some x1)) else (some false)) else (bif (a.1 == (2 : Int)) then (bif ((a.2.size : Int) == (6 : Int)) then (((digit_All.f a.2)).bind fun x1 => (some x1)) else (some false)) else (bif (a.1 == (3 : Int)) then (bif (a.1 == (3 : Int)) then (some ((ByteArray.toList a.2) == [])) else (some false)) else (bif (a.1 == (4 : Int)) then (some ((ByteArray.toList a.2) == [])) else (some false)))))
theorem chart_May.ok : ∀ a : Vals chart_May.As.tys, fnK P chart_May.H (lp []) 60 chart_May.As chart_May.m a some = chart_May.f a := fun a => by kernel_rfl
noncomputable abbrev chart_May.row : Row := fnRow 60 chart_May.As chart_May.m chart_May.f
theorem chart_May.row_ok : RowOK P G0 chart_May.row := row_told chart_May.hok (lp_of (l := []) trivial) (fun _ => rfl) chart_May.ok
noncomputable def bursarref11_Name.f (a : (Int × ByteArray)) : Option (ByteArray × Bool) := (bif (a.1 == (1 : Int)) then (bif ((a.2.size : Int) == (16 : Int)) then (((bursarref02_Sound.f a.2)).bind fun x1 => (bif x1 then (bif (Nat.ble (1 + a.2.size) 9223372036854775807) then (some (((bs [67]) ++ a.2), true)) else none) else (bif (a.1 == (2 : Int)) then (bif ((a.2.size : Int) == (6 : Int)) then (((bursarref02_All.f a.2)).bind fun x2 => (bif x2 then (bif (Nat.ble (1 + a.2.size) 9223372036854775807) then (some (((bs [65]) ++ a.2), true)) else none) else (bif (a.1 == (3 : Int)) then (bif ((ByteArray.toList a.2) == []) then (some ((bs [72]), true)) else (bif (a.1 == (4 : Int)) then (bif ((ByteArray.toList a.2) == []) then (some ((bs [68]), true)) else (some ((bs []), false))) else (some ((bs []), false)))) else (bif (a.1 == (4 : Int)) then (bif ((ByteArray.toList a.2) == []) then (some ((bs [68]), true)) else (some ((bs []), false))) else (some ((bs []), false)))))) else (bif (a.1 == (3 : Int)) then (bif ((ByteArray.toList a.2) == []) then (some ((bs [72]), true)) else (bif (a.1 == (4 : Int)) then (bif ((ByteArray.toList a.2) == []) then (some ((bs [68]), true)) else (some ((bs []), false))) else (some ((bs []), false)))) else (bif (a.1 == (4 : Int)) then (bif ((ByteArray.toList a.2) == []) then (some ((bs [68]), true)) else (some ((bs []), false))) else (some ((bs []), false))))) else (bif (a.1 == (3 : Int)) then (bif ((ByteArray.toList a.2) == []) then (some ((bs [72]), true)) else (bif (a.1 == (4 : Int)) then (bif ((ByteArray.toList a.2) == []) then (some ((bs [68]), true)) else (some ((bs []), false))) else (some ((bs []), false)))) else (bif (a.1 == (4 : Int)) then (bif ((ByteArray.toList a.2) == []) then (some ((bs [68]), true)) else (some ((bs []), false))) else (some ((bs []), false))))))) else (bif (a.1 == (2 : Int)) then (bif ((a.2.size : Int) == (6 : Int)) then (((bursarref02_All.f a.2)).bind fun x1 => (bif x1 then (bif (Nat.ble (1 + a.2.size) 9223372036854775807) then (some (((bs [65]) ++ a.2), true)) else none) else (bif (a.1 == (3 : Int)) then (bif ((ByteArray.toList a.2) == []) then (some ((bs [72]), true)) else (bif (a.1 == (4 : Int)) then (bif ((ByteArray.toList a.2) == []) then (some ((bs [68]), true)) else (some ((bs []), false))) else (some ((bs []), false)))) else (bif (a.1 == (4 : Int)) then (bif ((ByteArray.toList a.2) == []) then (some ((bs [68]), true)) else (some ((bs []), false))) else (some ((bs []), false)))))) else (bif (a.1 == (3 : Int)) then (bif ((ByteArray.toList a.2) == []) then (some ((bs [72]), true)) else (bif (a.1 == (4 : Int)) then (bif ((ByteArray.toList a.2) == []) then (some ((bs [68]), true)) else (some ((bs []), false))) else (some ((bs []), false)))) else (bif (a.1 == (4 : Int)) then (bif ((ByteArray.toList a.2) == []) then (some ((bs [68]), true)) else (some ((bs []), false))) else (some ((bs []), false))))) else (bif (a.1 == (3 : Int)) then (bif ((ByteArray.toList a.2) == []) then (some ((bs [72]), true)) else (bif (a.1 == (4 : Int)) then (bif ((ByteArray.toList a.2) == []) then (some ((bs [68]), true)) else (some ((bs []), false))) else (some ((bs []), false)))) else (bif (a.1 == (4 : Int)) then (bif ((ByteArray.toList a.2) == []) then (some ((bs [68]), true)) else (some ((bs []), false))) else (some ((bs []), false)))))) else (bif (a.1 == (2 : Int)) then (bif ((a.2.size : Int) == (6 : Int)) then (((bursarref02_All.f a.2)).bind fun x1 => (bif x1 then (bif (Nat.ble (1 + a.2.size) 9223372036854775807) then (some (((bs [65]) ++ a.2), true)) else none) else (bif (a.1 == (3 : Int)) then (bif ((ByteArray.toList a.2) == []) then (some ((bs [72]), true)) else (bif (a.1 == (4 : Int)) then (bif ((ByteArray.toList a.2) == []) then (some ((bs [68]), true)) else (some ((bs []), false))) else (some ((bs []), false)))) else (bif (a.1 == (4 : Int)) then (bif ((ByteArray.toList a.2) == []) then (some ((bs [68]), true)) else (some ((bs []), false))) else (some ((bs []), false)))))) else (bif (a.1 == (3 : Int)) then (bif ((ByteArray.toList a.2) == []) then (some ((bs [72]), true)) else (bif (a.1 == (4 : Int)) then (bif ((ByteArray.toList a.2) == []) then (some ((bs [68]), true)) else (some ((bs []), false))) else (some ((bs []), false)))) else (bif (a.1 == (4 : Int)) then (bif ((ByteArray.toList a.2) == []) then (some ((bs [68]), true)) else (some ((bs []), false))) else (some ((bs []), false))))) else (bif (a.1 == (3 : Int)) then (bif ((ByteArray.toList a.2) == []) then (some ((bs [72]), true)) else (bif (a.1 == (4 : Int)) then (bif ((ByteArray.toList a.2) == []) then (some ((bs [68]), true)) else (some ((bs []), false))) else (some ((bs []), false)))) else (bif (a.1 == (4 : Int)) then (bif ((ByteArray.toList a.2) == []) then (some ((bs [68]), true)) else (some ((bs []), false))) else (some ((bs []), false))))))
noncomputable def bursarref14_Ref.t6 (s : (ByteArray × Int)) : Option ((ByteArray × Int) ⊕ (Bool ⊕ Unit)) := (bif (decide ((s.2 < (12 : Int)))) then (bif ((decide (((0 : Int) ≤ s.2))) && (decide ((s.2 < (s.1.size : Int))))) then (bif (decide (((48 : Int) ≤ (bt s.1 (Int.toNat s.2))))) then (bif ((decide (((0 : Int) ≤ s.2))) && (decide ((s.2 < (s.1.size : Int))))) then (bif (!(decide (((bt s.1 (Int.toNat s.2)) ≤ (57 : Int))))) then (bif ((decide (((0 : Int) ≤ s.2))) && (decide ((s.2 < (s.1.size : Int))))) then (bif (decide (((65 : Int) ≤ (bt s.1 (Int.toNat s.2))))) then (bif ((decide (((0 : Int) ≤ s.2))) && (decide ((s.2 < (s.1.size : Int))))) then (bif (!(decide (((bt s.1 (Int.toNat s.2)) ≤ (90 : Int))))) then (some (.inr (.inl false))) else (some (.inl (s.1, (IntKind.wrap .i64 (s.2 + (1 : Int))))))) else none) else (some (.inr (.inl false)))) else none) else (some (.inl (s.1, (IntKind.wrap .i64 (s.2 + (1 : Int))))))) else none) else (bif ((decide (((0 : Int) ≤ s.2))) && (decide ((s.2 < (s.1.size : Int))))) then (bif (decide (((65 : Int) ≤ (bt s.1 (Int.toNat s.2))))) then (bif ((decide (((0 : Int) ≤ s.2))) && (decide ((s.2 < (s.1.size : Int))))) then (bif (!(decide (((bt s.1 (Int.toNat s.2)) ≤ (90 : Int))))) then (some (.inr (.inl false))) else (some (.inl (s.1, (IntKind.wrap .i64 (s.2 + (1 : Int))))))) else none) else (some (.inr (.inl false)))) else none)) else none) else (some (.inr (.inr ()))))
noncomputable def bursarref14_Ref.l6 : (ByteArray × Int) → Option (Bool ⊕ Unit) := rounds bursarref14_Ref.t6
noncomputable def bursarref14_Ref.f (a : ByteArray) : Option Bool := (bif ((a.size : Int) != (12 : Int)) then (some false) else (((bursarref14_Ref.l6 (a, (0 : Int)))).bind fun x1 => (match x1 with | .inl x2 => (some x2) | .inr x2 => (some true))))
end Go.Proofs.YtpoiijkodpnobaaGreatDoor
end
section
set_option linter.unusedVariables false
set_option linter.unusedSimpArgs false
namespace Go.Proofs.YtpoiijkodpnobaaGreatDoor
open Go Go.Fw
def refC (s : ByteArray) (i : Nat) : Bool := (decide (48 ≤ bt s i) && decide (bt s i ≤ 57)) || (decide (65 ≤ bt s i) && decide (bt s i ≤ 90))
def refB (s : ByteArray) : Bool := s.size == 12 && (List.range s.size).all (refC s)
theorem hold_Ref_is (s : ByteArray) (hs : s.size ≤ 4611686018427387904) : hold_Ref.f s = some (refB s) := by
  have h := rounds_all (t := hold_Ref.t3) (fun i => (s, ((s.size : Int), (i : Int)))) (refC s) (.inl false) (.inr s) s.size (fun i hi => by
    have := bt_bound s i
    have := wrap_up (n := i) (by omega)
    grind [hold_Ref.t3, refC]) (by simp [hold_Ref.t3])
  unfold hold_Ref.f hold_Ref.l3
  rw [show ((0 : Int)) = ((0 : Nat) : Int) from rfl, h]
  unfold refB
  have e : ((s.size : Int) == 12) = (s.size == 12) := by rw [Bool.eq_iff_iff]; simp only [beq_iff_eq]; omega
  cases (List.range s.size).all (refC s) <;> simp [e]
theorem ref_Ref_is (s : ByteArray) : bursarref14_Ref.f s = some (refB s) := by
  unfold bursarref14_Ref.f refB
  by_cases hz : s.size = 12
  · have h := rounds_all (t := bursarref14_Ref.t6) (fun i => (s, (i : Int))) (refC s) (.inl false) (.inr ()) s.size (fun i hi => by
      have := bt_bound s i
      have := wrap_up (n := i) (by omega)
      grind [bursarref14_Ref.t6, refC]) (by simp [bursarref14_Ref.t6, hz])
    have e : ((s.size : Int) != 12) = false := by simp; omega
    have e2 : (s.size == 12) = true := by simp [hz]
    rw [e, e2]
    unfold bursarref14_Ref.l6
    rw [show ((0 : Int)) = ((0 : Nat) : Int) from rfl, h]
    cases (List.range s.size).all (refC s) <;> rfl
  · have e : ((s.size : Int) != 12) = true := by simp; omega
    have e2 : (s.size == 12) = false := by simp [hz]
    rw [e, e2]; rfl
def soundB (s : ByteArray) : Bool := decide (2 ≤ s.size) && (digitsB s && (luhn s % 10 == 0))
def cardB (s : ByteArray) : Bool := s.size == 16 && soundB s
def acqB (s : ByteArray) : Bool := s.size == 6 && digitsB s
theorem size_is {s : ByteArray} (n : Nat) : ((s.size : Int) == (n : Int)) = (s.size == n) := by rw [Bool.eq_iff_iff]; simp only [beq_iff_eq]; omega
theorem card_is (s : ByteArray) : chart_May.f (1, s) = some (cardB s) := by
  have e := size_is (s := s) 16
  unfold chart_May.f cardB
  by_cases h : s.size = 16
  · have := digit_Sound_is s (by omega)
    rw [show ((s.size : Int) == 16) = true from by simp; omega, show (s.size == 16) = true from by simp [h]]
    simp only [this, beq_self_eq_true, cond_true, Option.bind_some, Bool.true_and]
    rfl
  · rw [show ((s.size : Int) == 16) = false from by simp; omega, show (s.size == 16) = false from by simp [h]]
    rfl
theorem acq_is (s : ByteArray) : chart_May.f (2, s) = some (acqB s) := by
  unfold chart_May.f acqB
  by_cases h : s.size = 6
  · have := digit_All_is s (by omega)
    rw [show ((s.size : Int) == 6) = true from by simp; omega, show (s.size == 6) = true from by simp [h]]
    simp [this]
  · rw [show ((s.size : Int) == 6) = false from by simp; omega, show (s.size == 6) = false from by simp [h]]
    rfl
theorem ref_card_is (s : ByteArray) : ∃ t, bursarref11_Name.f (1, s) = some (t, cardB s) := by
  unfold bursarref11_Name.f cardB
  by_cases h : s.size = 16
  · have := ref_Sound_is s (by omega)
    have e : bursarref02_Sound.f s = some (soundB s) := this
    have b1 : Nat.ble (1 + s.size) 9223372036854775807 = true := by rw [h]; rfl
    rw [e, b1, show ((s.size : Int) == 16) = true from by simp; omega, show (s.size == 16) = true from by simp [h]]
    cases soundB s
    · exact ⟨_, rfl⟩
    · exact ⟨_, rfl⟩
  · rw [show ((s.size : Int) == 16) = false from by simp; omega, show (s.size == 16) = false from by simp [h]]
    simp
end Go.Proofs.YtpoiijkodpnobaaGreatDoor
end
section
set_option linter.unusedVariables false
set_option linter.unusedSimpArgs false
namespace Go.Proofs.YtpoiijkodpnobaaGreatDoor
open Go Go.Fw
def fits (n : Int) : Bool := decide (-9223372036854775808 ≤ n) && decide (n ≤ 9223372036854775807)
def Amounts (l : List Int) : Prop := ∀ a ∈ l, -9223372036854775808 ≤ a ∧ a ≤ 9223372036854775807
theorem Amounts.at {l : List Int} (h : Amounts l) {i : Nat} (hi : i < l.length) : -9223372036854775808 ≤ l.getD i 0 ∧ l.getD i 0 ≤ 9223372036854775807 := by
  rw [getD_at hi]
  exact h _ (List.getElem_mem hi)
end Go.Proofs.YtpoiijkodpnobaaGreatDoor
end
section
set_option linter.unusedVariables false
set_option linter.unusedSimpArgs false
namespace Go.Proofs.YtpoiijkodpnobaaGreatDoor
open Go Go.Fw
def Told (r : Int × Bool) (n : Int) : Prop := r.2 = fits n ∧ (fits n = true → r.1 = n)
end Go.Proofs.YtpoiijkodpnobaaGreatDoor
end
section
set_option linter.unusedVariables false
set_option linter.unusedSimpArgs false
namespace Go.Fw
section
variable {S R : Type} {t : S → Option (S ⊕ R)}
theorem range_none {n k : Nat} {ex : Nat → Option R} (hk : k ≤ n) (h : ∀ j, j < k → ex j = none) : (List.range k).findSome? ex = none := by
  rw [List.findSome?_eq_none_iff]
  intro j hj
  exact h j (List.mem_range.1 hj)
theorem range_some {n k : Nat} {ex : Nat → Option R} {r : R} (hk : k < n) (h : ∀ j, j < k → ex j = none) (hr : ex k = some r) : (List.range n).findSome? ex = some r := by
  have e : List.range n = List.range k ++ k :: (List.range (n - k - 1)).map (· + (k + 1)) := by
    have h1 : n = k + (1 + (n - k - 1)) := by omega
    rw [h1, List.range_add, List.range_add]
    simp
    intro a _
    omega
  rw [e, List.findSome?_append, range_none (Nat.le_refl k) h]
  simp [hr]
theorem rounds_first (st : Nat → S) (ex : Nat → Option R) (fin : R) (n : Nat) (h : ∀ i, i < n → (∀ j, j < i → ex j = none) → t (st i) = some (match ex i with | some r => .inr r | none => .inl (st (i + 1))))
    (hf : (∀ j, j < n → ex j = none) → t (st n) = some (.inr fin)) : rounds t (st 0) = some (((List.range n).findSome? ex).getD fin) := by
  have go : ∀ k, k ≤ n → (∀ j, j < k → ex j = none) → rounds t (st 0) = rounds t (st k) := by
    intro k
    induction k with
    | zero => intro _ _; rfl
    | succ k ih =>
      intro hk hj
      rw [ih (by omega) fun j h => hj j (by omega)]
      have h1 := h k (by omega) fun j h => hj j (by omega)
      rw [hj k (by omega)] at h1
      exact rounds_next h1
  by_cases ha : ∀ j, j < n → ex j = none
  · rw [go n (Nat.le_refl _) ha, rounds_end (hf ha), range_none (Nat.le_refl n) ha]
    rfl
  · have hex : ∃ k, k < n ∧ (∀ j, j < k → ex j = none) ∧ ∃ r, ex k = some r := by
      clear h hf go
      induction n with
      | zero => exact absurd (fun j hj => by omega) ha
      | succ n ih =>
        by_cases h' : ∀ j, j < n → ex j = none
        · cases hn : ex n with
          | none => exact absurd (fun j hj => by
              by_cases e : j = n
              · rw [e]; exact hn
              · exact h' j (by omega)) ha
          | some r => exact ⟨n, by omega, h', r, hn⟩
        · obtain ⟨k, h1, h2⟩ := ih h'
          exact ⟨k, by omega, h2⟩
    obtain ⟨k, hk, hj, r, hr⟩ := hex
    have h1 := h k hk hj
    rw [hr] at h1
    rw [go k (by omega) hj, rounds_end h1, range_some hk hj hr]
    rfl
theorem rounds_map {α β : Type} (l : List α) (d : α) (g : α → β) (st : List β → Nat → S) (out : List β → R) (h : ∀ i, i < l.length → t (st ((l.take i).map g) i) = some (.inl (st ((l.take i).map g ++ [g (l.getD i d)]) (i + 1))))
    (hf : ∀ acc, acc = l.map g → t (st acc l.length) = some (.inr (out acc))) : rounds t (st [] 0) = some (out (l.map g)) := by
  have := rounds_to (t := t) (fun i => st ((l.take i).map g) i) l.length (fun i hi => by
    rw [h i hi, take_up d hi, List.map_append]; rfl)
  simp only [List.take_zero, List.map_nil, List.take_length] at this
  rw [this]
  exact rounds_end (hf _ rfl)
end
theorem ge0' (i : Nat) : decide ((0 : Int) ≤ (i : Int)) = true := decide_eq_true (by omega)
theorem inb {i n : Nat} (h : i < n) : decide (((i : Nat) : Int) < ((n : Nat) : Int)) = true := decide_eq_true (by omega)
theorem outb (n : Nat) : decide (((n : Nat) : Int) < ((n : Nat) : Int)) = false := decide_eq_false (by omega)
theorem find_not {β : Type} {n : Nat} {p : Nat → Bool} {g : Nat → β} : (∃ i, i < n ∧ (List.range n).findSome? (fun i => bif p i then none else some (g i)) = some (g i) ∧ (List.range n).all p = false) ∨ ((List.range n).findSome? (fun i => bif p i then none else some (g i)) = none ∧ (List.range n).all p = true) := by
  cases hq : (List.range n).findSome? (fun i => bif p i then none else some (g i)) with
  | none =>
    right
    refine ⟨rfl, ?_⟩
    rw [List.all_eq_true]
    intro i hi
    have := (List.findSome?_eq_none_iff.1 hq) i hi
    cases hb : p i
    · rw [hb] at this; cases this
    · rfl
  | some r =>
    left
    obtain ⟨i, hi, hr⟩ := List.exists_of_findSome?_eq_some hq
    cases hb : p i <;> rw [hb] at hr
    · injection hr with hr
      refine ⟨i, List.mem_range.1 hi, by rw [hr], ?_⟩
      rw [← Bool.not_eq_true, List.all_eq_true]
      intro h
      rw [h i hi] at hb
      cases hb
    · cases hr
end Go.Fw
end
section
set_option linter.unusedVariables false
set_option linter.unusedSimpArgs false
namespace Go.Fw
open Go
theorem eq_bs (s : ByteArray) : s = bs s.data.toList := by cases s; simp [bs]
theorem bs_list (l : List UInt8) : (bs l).data.toList = l := by simp [bs]
theorem bs_toList (l : List UInt8) : (bs l).toList = l := by rw [ByteArray.toList_eq, bs_list]
theorem bs_size (l : List UInt8) : (bs l).size = l.length := by show (bs l).data.size = _; simp [bs]
theorem bs_append (l r : List UInt8) : bs l ++ bs r = bs (l ++ r) := by
  apply ByteArray.ext
  rw [ByteArray.data_append]
  simp [bs]
theorem bs_extract (l : List UInt8) (i j : Nat) : (bs l).extract i j = bs ((l.take j).drop i) := by
  apply ByteArray.ext
  rw [ByteArray.data_extract]
  apply Array.toList_inj.1
  simp [bs, List.extract_eq_take_drop, List.drop_take]
theorem bt_bs (l : List UInt8) (i : Nat) : bt (bs l) i = ((l.getD i 0).toNat : Int) := by unfold bt; rw [bs_list]
theorem bs_inj {l r : List UInt8} : bs l = bs r ↔ l = r := ⟨fun h => by rw [← bs_list l, h, bs_list], fun h => by rw [h]⟩
theorem texts_eq (x y : ByteArray) : (ByteArray.toList x == ByteArray.toList y) = decide (x = y) := by
  rw [ByteArray.toList_eq, ByteArray.toList_eq, Bool.eq_iff_iff, beq_iff_eq, decide_eq_true_iff]
  constructor
  · intro h
    cases x; cases y
    simp only [Array.toList_inj] at h
    rw [h]
  · intro h; rw [h]
theorem texts_list (x : ByteArray) (l : List UInt8) : (ByteArray.toList x == l) = decide (x = bs l) := by
  rw [← texts_eq, bs_toList]
theorem texts_nil (x : ByteArray) : (ByteArray.toList x == []) = decide (x = bs []) := by
  rw [← texts_eq, bs_toList]
abbrev dgt (n : Nat) : UInt8 := UInt8.ofNat (48 + n)
def decP : Nat → Nat → List UInt8
  | 0, _ => []
  | k + 1, n => if n = 0 then [] else decP k (n / 10) ++ [dgt (n % 10)]
theorem decF_decP : ∀ (k n : Nat), n < 10 ^ (k + 1) → decF (k + 1) n = decP k (n / 10) ++ [dgt (n % 10)]
  | 0, n, h => by
    have h' : n < 10 := by simpa using h
    have hb : Nat.blt n 10 = true := by rw [Nat.blt_eq]; exact h'
    unfold decF decP
    simp only [hb, cond_true, List.nil_append]
    rw [show n % 10 = n by omega]
  | k + 1, n, h => by
    unfold decF decP
    by_cases h' : n < 10
    · have hb : Nat.blt n 10 = true := by rw [Nat.blt_eq]; exact h'
      simp only [hb, cond_true]
      rw [if_pos (by omega), show n % 10 = n by omega]; rfl
    · have hb : Nat.blt n 10 = false := by
        cases hb : Nat.blt n 10
        · rfl
        · rw [Nat.blt_eq] at hb; omega
      simp only [hb, cond_false]
      rw [if_neg (by omega), decF_decP k (n / 10) (by have : 10 ^ (k + 1 + 1) = 10 ^ (k + 1) * 10 := Nat.pow_succ ..; omega)]
end Go.Fw
end
section
set_option linter.unusedVariables false
set_option linter.unusedSimpArgs false
namespace Go.Proofs.YtpoiijkodpnobaaGreatDoor
open Go Go.Fw
abbrev Acc := Int × ByteArray
abbrev Lin := Acc × Int
def zL : Lin := ((0, bs []), 0)
def goodL (l : List Lin) : Prop := ∀ y ∈ l, (Lit.int .i64 y.1.1).wf = true ∧ y.1.2.size ≤ maxLen ∧ Am y.2
theorem goodL.at {l : List Lin} (h : goodL l) {i : Nat} (hi : i < l.length) : Ty.keyFit T_api_Account (l.getD i zL).1 = true := by
  obtain ⟨h1, h2, _⟩ := h (l.getD i zL) (by rw [getD_at hi]; exact List.getElem_mem hi)
  show ((Lit.int .i64 (l.getD i zL).1.1).wf && Nat.ble (l.getD i zL).1.2.size maxLen) = true
  rw [h1, Nat.ble_eq_true_of_le h2]; rfl
end Go.Proofs.YtpoiijkodpnobaaGreatDoor
end
section
namespace Go.Proofs
open Go.Shelf
def Tryz.lays283_ren : Go.Shelf.Ren := ⟨fun | 283 => 157 | n => n, fun | 3 => 3 | 9 => 9 | 4 => 4 | n => n, fun | n => n⟩
theorem Tryz.lays283 : Go.Proofs.Lays.n283 Tryz.prog Tryz.lays283_ren := {
  mixed := by kernel_rfl
  f283 := Tryz.func157.trans (congrArg some (by kernel_rfl))
  t3 := Tryz.underlying3
  a3 := Tryz.isAgg3
  z3 := Tryz.sizeOf3
  v3 := Tryz.zeroValue3
  t4 := Tryz.underlying4
  a4 := Tryz.isAgg4
  z4 := Tryz.sizeOf4
  v4 := Tryz.zeroValue4
  t9 := Tryz.underlying9
  a9 := Tryz.isAgg9
  z9 := Tryz.sizeOf9
  v9 := Tryz.zeroValue9 }
def Tryz.laysM284_ren : Go.Shelf.Ren := ⟨fun | 284 => 158 | 129 => 180 | 317 => 179 | 318 => 181 | n => n, fun | 53 => 95 | 3 => 3 | 212 => 237 | 0 => 0 | 4 => 4 | 46 => 163 | 5 => 5 | 9 => 9 | n => n, fun | 17 => 4 | n => n⟩
theorem Tryz.laysM284 : Go.Proofs.LaysM.n284 Tryz.prog Tryz.laysM284_ren := {
  mixed := by kernel_rfl
  f129 := Tryz.func180.trans (congrArg some (by kernel_rfl))
  f284 := Tryz.func158.trans (congrArg some (by kernel_rfl))
  f317 := Tryz.func179.trans (congrArg some (by kernel_rfl))
  f318 := Tryz.func181.trans (congrArg some (by kernel_rfl))
  t0 := Tryz.underlying0
  a0 := Tryz.isAgg0
  z0 := Tryz.sizeOf0
  v0 := Tryz.zeroValue0
  t3 := Tryz.underlying3
  a3 := Tryz.isAgg3
  z3 := Tryz.sizeOf3
  v3 := Tryz.zeroValue3
  t4 := Tryz.underlying4
  a4 := Tryz.isAgg4
  z4 := Tryz.sizeOf4
  v4 := Tryz.zeroValue4
  t5 := Tryz.underlying5
  a5 := Tryz.isAgg5
  z5 := Tryz.sizeOf5
  v5 := Tryz.zeroValue5
  t9 := Tryz.underlying9
  a9 := Tryz.isAgg9
  z9 := Tryz.sizeOf9
  v9 := Tryz.zeroValue9
  t46 := Tryz.underlying163
  a46 := Tryz.isAgg163
  z46 := Tryz.sizeOf163
  v46 := Tryz.zeroValue163
  t53 := Tryz.underlying95
  a53 := Tryz.isAgg95
  z53 := Tryz.sizeOf95
  v53 := Tryz.zeroValue95
  t212 := Tryz.underlying237
  a212 := Tryz.isAgg237
  z212 := Tryz.sizeOf237
  v212 := Tryz.zeroValue237
  g17 := by kernel_rfl
  i0 := by kernel_rfl
  i3 := by kernel_rfl
  i4 := by kernel_rfl
  i5 := by kernel_rfl
  i9 := by kernel_rfl
  i46 := by kernel_rfl
  i53 := by kernel_rfl
  i212 := by kernel_rfl
  m17 := by kernel_rfl }
def Tryz.lays285_ren : Go.Shelf.Ren := ⟨fun | 285 => 159 | n => n, fun | 37 => 132 | 53 => 95 | 3 => 3 | 4 => 4 | 51 => 200 | 9 => 9 | 5 => 5 | 0 => 0 | n => n, fun | n => n⟩
theorem Tryz.lays285 : Go.Proofs.Lays.n285 Tryz.prog Tryz.lays285_ren := {
  mixed := by kernel_rfl
  f285 := Tryz.func159.trans (congrArg some (by kernel_rfl))
  t0 := Tryz.underlying0
  a0 := Tryz.isAgg0
  z0 := Tryz.sizeOf0
  v0 := Tryz.zeroValue0
  t3 := Tryz.underlying3
  a3 := Tryz.isAgg3
  z3 := Tryz.sizeOf3
  v3 := Tryz.zeroValue3
  t4 := Tryz.underlying4
  a4 := Tryz.isAgg4
  z4 := Tryz.sizeOf4
  v4 := Tryz.zeroValue4
  t5 := Tryz.underlying5
  a5 := Tryz.isAgg5
  z5 := Tryz.sizeOf5
  v5 := Tryz.zeroValue5
  t9 := Tryz.underlying9
  a9 := Tryz.isAgg9
  z9 := Tryz.sizeOf9
  v9 := Tryz.zeroValue9
  t37 := Tryz.underlying132
  a37 := Tryz.isAgg132
  z37 := Tryz.sizeOf132
  v37 := Tryz.zeroValue132
  t51 := Tryz.underlying200
  a51 := Tryz.isAgg200
  z51 := Tryz.sizeOf200
  v51 := Tryz.zeroValue200
  t53 := Tryz.underlying95
  a53 := Tryz.isAgg95
  z53 := Tryz.sizeOf95
  v53 := Tryz.zeroValue95 }
end Go.Proofs
end
section
set_option linter.unusedVariables false
namespace Go.Proofs
open Go.Shelf Go.RowKit Go.Sort Go.Lib
theorem Tryz.holds_zero0 (w : World) (T : TypeId) (nd : Nat) (hs : nd ≤ 24) : Holds (fun (b : UInt8) => Value.int .u8 (b.toNat : Int)) (w.alloc (.cells zeros24 T)) w.heap.size 0 (Array.replicate nd (0 : UInt8)) := fun j hj => by
  have hj' : j < nd := by simpa using hj
  refine ⟨?_, World.frozen?_alloc_new _ _ _ _⟩
  rw [World.cell?_alloc_new, zeros24_at _ (by omega), getElem!_pos _ j hj]
  simp
theorem Tryz.fin0 (w : World) (o : Obj) (dk : Array UInt8) (k : Nat) : ∃ os, (putRow (fun (b : UInt8) => Value.int .u8 (b.toNat : Int)) (w.alloc o) w.heap.size 0 dk).drewN k = grow (w.drewN k) os := by
  rw [alloc_eq_grow]
  obtain ⟨os', _, e⟩ := putRow_grow_new (fun (b : UInt8) => Value.int .u8 (b.toNat : Int)) w #[o] w.heap.size 0 dk (Nat.le_refl _)
  exact ⟨os', by rw [e]; rfl⟩
set_option maxHeartbeats 6400000 in
set_option maxRecDepth 100000 in
theorem Tryz.fmtUint_in (u : Nat) (hu64 : u < 18446744073709551616) (w : World) (htab : Lib.TabIs Tryz.prog w "internal/strconv.uint64pow10" .u64 Lib.pow10Tab) :
    Calls Tryz.prog 123 #[.int .u64 u, .int .i64 10] w fun e w' => e = .returned (.string ⟨(Lib.decDigits u).toArray⟩) ∧ ∃ k os, w' = grow (w.drewN k) os := by
  by_cases hs : u < 100
  · go_enter Tryz.func123, Tryz.ntmps123
    go_wp2_with (go_at_call 157; refine (Any.internal_strconv_small Tryz.lays283 u hs _).mono ?_; rintro e w' ⟨rfl, rfl⟩)
    go_ret
    exact ⟨rfl, 0, #[], by simp [World.drewN_zero]⟩
  · have hu1 : 1 ≤ u := by omega
    have hnd20 : Lib.nDigits u ≤ 20 := by have := Lib.numDigits_eq u hu1 hu64; split at this <;> omega
    have hb3 : Lib.nDigits u ≤ 24 := by omega
    have hal : Tryz.prog.arrayLen 211 = 24 := by kernel_rfl
    have hsl1 : ∀ W, (Instr.sliceAt 211 (.pointer (some ⟨w.heap.size, 0, none⟩)) none (some (.int .i64 (Lib.nDigits u : Int))) none).run Tryz.prog W = .ok (.slice (some ⟨w.heap.size, 0, none⟩) (Lib.nDigits u) 24) W := fun W => by
      rw [run_sliceAt_array_h W 211 ⟨w.heap.size, 0, none⟩ (by simp [Program.arrayLen, Program.elem, Tryz.underlying211]) .i64 (Lib.nDigits u : Int) (by omega) (by rw [hal]; omega)]
      go_simp
    have hH0 := Tryz.holds_zero0 w 211 (Lib.nDigits u) (by omega)
    have hfmt := Any.internal_strconv_formatBase10 Tryz.lays285 w.heap.size 0 24 u (Array.replicate (Lib.nDigits u) 0) (w.alloc (.cells Lib.zeros24 211)) hH0 (by rw [Array.size_replicate]; exact Lib.lt_pow_nDigits u) hu64 (by rw [Array.size_replicate]; omega)
    rw [Array.size_replicate] at hfmt
    have HH0 := Lib.hid hH0
    clear hH0 hal
    go_enter Tryz.func123, Tryz.ntmps123
    go_wp2_with (first
      | (go_at_call 158; refine (Any.internal_strconv_numDigits Tryz.laysM284 u hu1 hu64 _ (Lib.tabIs_alloc htab _)).mono ?_; rintro e w' ⟨rfl, rfl⟩))
    go_at_call 159
    refine hfmt.mono ?_
    rintro e w' ⟨rfl, k, v', dk, rfl, hF⟩
    have hcv : (convert 132 9 (.slice (some ⟨w.heap.size, 0, none⟩) (Lib.nDigits u) 24)).run Tryz.prog ((putRow (fun (b : UInt8) => Value.int .u8 (b.toNat : Int)) (w.alloc (.cells Lib.zeros24 211)) w.heap.size 0 dk).drewN k) = .ok (.string ⟨(Lib.decDigits u).toArray⟩) ((putRow (fun (b : UInt8) => Value.int .u8 (b.toNat : Int)) (w.alloc (.cells Lib.zeros24 211)) w.heap.size 0 dk).drewN k) := by
      have h := run_convert_bytes_back (P := Tryz.prog) ((putRow (fun (b : UInt8) => Value.int .u8 (b.toNat : Int)) (w.alloc (.cells Lib.zeros24 211)) w.heap.size 0 dk).drewN k) 132 9 5 ⟨w.heap.size, 0, none⟩ 24 (Lib.decDigits u) Tryz.underlying132 Tryz.underlying5 Tryz.underlying9 (fun j hj => by
        rw [Lib.row_is_numeral hF j hj, Lib.add_plain, World.cell?_drewN]
        exact cell?_putRow (fun (b : UInt8) => Value.int .u8 (b.toNat : Int)) _ w.heap.size 0 _ dk HH0.out (by rw [hF.size, Array.size_replicate]) j (by rw [hF.size]; rw [Lib.decDigits_length] at hj; exact hj))
      rw [Lib.decDigits_length] at h
      exact h
    go_wp2
    go_ret
    obtain ⟨os, eo⟩ := Tryz.fin0 w (.cells Lib.zeros24 211) dk k
    exact ⟨rfl, k, os, eo⟩
set_option maxRecDepth 100000 in
theorem Tryz.fmtUint (u : Nat) (hu64 : u < 18446744073709551616) (w : World) (htab : Lib.TabIs Tryz.prog w "internal/strconv.uint64pow10" .u64 Lib.pow10Tab) :
    Calls Tryz.prog 89 #[.int .u64 u, .int .i64 10] w fun e w' => e = .returned (.string ⟨(Lib.decDigits u).toArray⟩) ∧ ∃ k os, w' = grow (w.drewN k) os := by
  go_enter Tryz.func89, Tryz.ntmps89
  go_wp2_with (go_at_call 123; refine (Tryz.fmtUint_in u hu64 _ htab).mono ?_; rintro e w' ⟨rfl, k, os, rfl⟩)
  go_ret
  exact ⟨rfl, k, os, rfl⟩
end Go.Proofs
end
section
set_option linter.unusedVariables false
namespace Go.Proofs.YtpoiijkodpnobaaGreatDoor
open Go Go.Fw Go.RowKit
theorem grow_below (w : World) (k : Nat) (os : Array Obj) : Below w.heap.size w (Sort.grow (w.drewN k) os) := by
  have h : Below w.heap.size w (w.drewN k) := by
    induction k with
    | zero => rw [World.drewN_zero]; exact .refl _ _
    | succ k ih => exact ⟨rfl, rfl, rfl, Nat.le_refl _, fun _ _ => rfl⟩
  exact h.trans ⟨rfl, rfl, rfl, by simp [Sort.grow], fun i hi => by
    show ((w.drewN k).heap ++ os)[i]? = _
    rw [Array.getElem?_append, if_pos (Nat.lt_of_lt_of_le hi h.size)]⟩
theorem ent_of {g : FuncId} {fn : Func} (h : P.funcs[g]? = some fn) (hn : (fn.name == "runtime.NumGoroutine") = false) (hb : fn.body.isNone = false) : Fw.Enters P g := ⟨fn, h, hn, hb⟩
theorem pcall_belowI {G : Nat → Option (List D)} {g : FuncId} {ds : List D} {r : D}
    (h : ∀ (w : World) (I K : Mem) (vs : Array Value), Glob ⟨w, I, K, fun _ => 0, fun _ => 0, G⟩ → (∀ b, I b → b < w.heap.size) → (∀ b, K b → b < w.heap.size) → vs.size = ds.length → (∀ (j : Nat) (d : D), ds[j]? = some d → RelD w I d (vs.getD j undef)) →
      Calls P g vs w fun e w' => ∃ v, e = .returned v ∧ Below w.heap.size w w' ∧ RelX w' I K r v) : PCall P G g ds r := by
  intro w I K vs hg hI hK hd hsz hargs
  refine (h w I K vs hg hI hK hsz hargs).mono ?_
  rintro e w' ⟨v, rfl, hb, hx⟩
  refine ⟨v, I, rfl, hb.size, fun b hb' => ⟨hb', hb.block b (hI b hb')⟩, fun b hb' => hb.block b (hK b hb'), fun b hb' => ⟨Nat.lt_of_lt_of_le (hI b hb') hb.size, hd b hb'⟩, fun b cs e fz hc => ⟨cs, ?_, rfl⟩, hb.os, hb.tape, hb.output, hx⟩
  rw [hb.block b (Array.getElem?_eq_some_iff.1 hc).1]
  exact hc
theorem alloc_below (w : World) (o : Obj) : Below w.heap.size w (w.alloc o) := ⟨rfl, rfl, rfl, by show w.heap.size ≤ (w.heap.push _).size; simp, fun i hi => by
  show (w.heap.push o)[i]? = _
  rw [Array.getElem?_push, if_neg (by omega)]⟩
theorem frOK_alloc {w : World} {I K : Mem} {xs : List D} {vs : List Value} {t : TypeId} (hI : ∀ b, I b → b < w.heap.size) (hK : ∀ b, K b → b < w.heap.size) (hl : xs.length = vs.length) (hw : ∀ x ∈ xs, x.cells = [x]) (h1 : ∀ v ∈ vs, v.oneCell' = true)
    (h : ∀ (j : Nat) (d : D), xs[j]? = some d → RelD (w.alloc (.cells vs.toArray t)) I d (vs.toArray.getD j undef)) : FrOK (w.alloc (.cells vs.toArray t)) I K 1 xs (.slice (some ⟨w.heap.size, 0, none⟩) xs.length xs.length) := by
  have hh : (w.alloc (.cells vs.toArray t)).heap[w.heap.size]? = some (.cells vs.toArray t) := by
    show (w.heap.push _)[w.heap.size]? = _
    rw [Array.getElem?_push, if_pos rfl]
  refine ⟨_, _, rfl, Nat.le_refl _, rfl, .inl rfl, fun hb => Nat.lt_irrefl _ (hI _ hb), fun hb => Nat.lt_irrefl _ (hK _ hb), ⟨rfl, vs.toArray, t, _, hh, fun o _ ho => by omega, fun x hx => by simp [D.width, hw x hx], by omega, by simp [hl], fun j hj => ?_, fun j k x d hx hd => ?_⟩, _, _, _, hh, by simp [hl], by simp⟩
  · have hj' : j < vs.length := by omega
    rw [Array.getD_eq_getD_getElem?]
    simp only [List.getElem?_toArray, List.getElem?_eq_getElem hj', Option.getD_some]
    exact h1 _ (List.getElem_mem hj')
  · have hm : x ∈ xs := List.mem_of_getElem? hx
    rw [hw x hm] at hd
    cases k with
    | zero =>
      simp only [List.getElem?_cons_zero, Option.some.injEq] at hd
      subst hd
      have := h j x hx
      rw [show j * 1 + 0 = j by omega]
      exact this
    | succ k => simp at hd
end Go.Proofs.YtpoiijkodpnobaaGreatDoor
end
section
set_option linter.unusedVariables false
namespace Go.Proofs.YtpoiijkodpnobaaGreatDoor
open Go Go.Fw Go.RowKit
abbrev strconv_FormatUint.As : Shs := .cons (.x (.i .u64)) (.cons (.x (.i .i64)) .nil)
abbrev strconv_FormatUint.m : Back := [(false, .s)]
abbrev strconv_FormatUint.f (a : (Int × Int)) : Option ByteArray := fmtU a
noncomputable abbrev strconv_FormatUint.row : Row := fnRow 89 strconv_FormatUint.As strconv_FormatUint.m strconv_FormatUint.f
theorem strconv_FormatUint.row_ok : RowOK P G0 strconv_FormatUint.row := by
  have key : ∀ (ds : List D) (a : Int × Int) (q : ByteArray), decArgs strconv_FormatUint.As ds = some a → strconv_FormatUint.f a = some q → Fw.Enters P 89 ∧ PCall P G0 89 ds (.s q) := by
    intro ds a q ha hq
    refine ⟨ent_of Tryz.func89 (by kernel_rfl) (by kernel_rfl), ?_⟩
    have hds := (decArgs_argD ha).symm
    refine PCall.coe (ds' := argD strconv_FormatUint.As a) ?_ (by rw [← hds]; exact coeA_len) fun w I f hf => by rw [← hds]; exact coeA_rel hf
    refine pcall_below fun w I K vs hg hsz hr => ?_
    have h0 := hr 0 (.i .u64 a.1) rfl
    have h1 := hr 1 (.i .i64 a.2) rfl
    have hvs : vs = #[.int .u64 a.1, .int .i64 a.2] := by
      have hs : vs.size = 2 := hsz
      rw [Array.getD_eq_getD_getElem?, Array.getElem?_eq_getElem (by omega)] at h0 h1
      simp only [Option.getD_some] at h0 h1
      refine Array.ext (by simpa using hs) fun i hi hi' => ?_
      match i, hi with
      | 0, _ => cases h : vs[0] <;> rw [h] at h0 <;> cases h0; rfl
      | 1, _ => cases h : vs[1] <;> rw [h] at h1 <;> cases h1; rfl
      | i + 2, hi => omega
    subst hvs
    unfold strconv_FormatUint.f fmtU at hq
    obtain ⟨hb, hq⟩ := cond_some hq
    simp only [Bool.and_eq_true, decide_eq_true_eq] at hb
    obtain ⟨⟨h2, h3⟩, h4⟩ := hb
    injection hq with hq
    subst hq
    obtain ⟨u, hu⟩ : ∃ u : Nat, a.1 = u := ⟨a.1.toNat, by omega⟩
    rw [hu, h4]
    refine (Tryz.fmtUint u (by omega) w (tab_of_glob hg (g := 4) (by kernel_rfl) rfl)).mono ?_
    rintro e w' ⟨rfl, k, os, rfl⟩
    refine ⟨_, rfl, grow_below w k os, ?_⟩
    rw [decF_is 19 _ (by omega)]
    exact RelD.s _
  exact fun ds a q => key ds a q
end Go.Proofs.YtpoiijkodpnobaaGreatDoor
end
section
namespace Go.Proofs
open Go.Shelf
def Tryz.laysPu14_ren : Go.Shelf.Ren := ⟨fun | 14 => 86 | 16 => 121 | 17 => 122 | 19 => 151 | 20 => 152 | 21 => 153 | 22 => 154 | 23 => 155 | 24 => 156 | 25 => 177 | 27 => 52 | 26 => 178 | 28 => 90 | 29 => 124 | 30 => 157 | 31 => 158 | 32 => 159 | 33 => 160 | 35 => 180 | 34 => 179 | 36 => 181 | 37 => 182 | 38 => 183 | 39 => 189 | 40 => 190 | n => n, fun | 9 => 9 | 3 => 3 | 22 => 95 | 24 => 141 | 25 => 142 | 4 => 4 | 34 => 206 | 5 => 5 | 36 => 163 | 37 => 132 | 0 => 0 | 39 => 208 | 21 => 21 | 44 => 234 | 47 => 204 | 50 => 247 | 48 => 245 | 2 => 2 | 52 => 211 | 55 => 214 | 59 => 237 | 60 => 200 | 20 => 20 | 61 => 238 | 65 => 257 | 66 => 258 | 67 => 173 | n => n, fun | 0 => 2 | 1 => 3 | 2 => 4 | 3 => 6 | 4 => 7 | n => n⟩
theorem Tryz.laysPu14 : Go.Proofs.LaysPu.n14 Tryz.prog Tryz.laysPu14_ren := {
  mixed := by kernel_rfl
  f14 := Tryz.func86.trans (congrArg some (by kernel_rfl))
  f16 := Tryz.func121.trans (congrArg some (by kernel_rfl))
  f17 := Tryz.func122.trans (congrArg some (by kernel_rfl))
  f19 := Tryz.func151.trans (congrArg some (by kernel_rfl))
  f20 := Tryz.func152.trans (congrArg some (by kernel_rfl))
  f21 := Tryz.func153.trans (congrArg some (by kernel_rfl))
  f22 := Tryz.func154.trans (congrArg some (by kernel_rfl))
  f23 := Tryz.func155.trans (congrArg some (by kernel_rfl))
  f24 := Tryz.func156.trans (congrArg some (by kernel_rfl))
  f25 := Tryz.func177.trans (congrArg some (by kernel_rfl))
  f26 := Tryz.func178.trans (congrArg some (by kernel_rfl))
  f27 := Tryz.func52.trans (congrArg some (by kernel_rfl))
  f28 := Tryz.func90.trans (congrArg some (by kernel_rfl))
  f29 := Tryz.func124.trans (congrArg some (by kernel_rfl))
  f30 := Tryz.func157.trans (congrArg some (by kernel_rfl))
  f31 := Tryz.func158.trans (congrArg some (by kernel_rfl))
  f32 := Tryz.func159.trans (congrArg some (by kernel_rfl))
  f33 := Tryz.func160.trans (congrArg some (by kernel_rfl))
  f34 := Tryz.func179.trans (congrArg some (by kernel_rfl))
  f35 := Tryz.func180.trans (congrArg some (by kernel_rfl))
  f36 := Tryz.func181.trans (congrArg some (by kernel_rfl))
  f37 := Tryz.func182.trans (congrArg some (by kernel_rfl))
  f38 := Tryz.func183.trans (congrArg some (by kernel_rfl))
  f39 := Tryz.func189.trans (congrArg some (by kernel_rfl))
  f40 := Tryz.func190.trans (congrArg some (by kernel_rfl))
  t0 := Tryz.underlying0
  a0 := Tryz.isAgg0
  z0 := Tryz.sizeOf0
  v0 := Tryz.zeroValue0
  i0 := by kernel_rfl
  t2 := Tryz.underlying2
  a2 := Tryz.isAgg2
  z2 := Tryz.sizeOf2
  v2 := Tryz.zeroValue2
  i2 := by kernel_rfl
  t3 := Tryz.underlying3
  a3 := Tryz.isAgg3
  z3 := Tryz.sizeOf3
  v3 := Tryz.zeroValue3
  i3 := by kernel_rfl
  t4 := Tryz.underlying4
  a4 := Tryz.isAgg4
  z4 := Tryz.sizeOf4
  v4 := Tryz.zeroValue4
  i4 := by kernel_rfl
  t5 := Tryz.underlying5
  a5 := Tryz.isAgg5
  z5 := Tryz.sizeOf5
  v5 := Tryz.zeroValue5
  i5 := by kernel_rfl
  t9 := Tryz.underlying9
  a9 := Tryz.isAgg9
  z9 := Tryz.sizeOf9
  v9 := Tryz.zeroValue9
  i9 := by kernel_rfl
  t20 := Tryz.underlying20
  a20 := Tryz.isAgg20
  z20 := Tryz.sizeOf20
  v20 := Tryz.zeroValue20
  i20 := by kernel_rfl
  t21 := Tryz.underlying21
  a21 := Tryz.isAgg21
  z21 := Tryz.sizeOf21
  v21 := Tryz.zeroValue21
  i21 := by kernel_rfl
  t22 := Tryz.underlying95
  a22 := Tryz.isAgg95
  z22 := Tryz.sizeOf95
  v22 := Tryz.zeroValue95
  i22 := by kernel_rfl
  t24 := Tryz.underlying141
  a24 := Tryz.isAgg141
  z24 := Tryz.sizeOf141
  v24 := Tryz.zeroValue141
  i24 := by kernel_rfl
  t25 := Tryz.underlying142
  a25 := Tryz.isAgg142
  z25 := Tryz.sizeOf142
  v25 := Tryz.zeroValue142
  i25 := by kernel_rfl
  t34 := Tryz.underlying206
  a34 := Tryz.isAgg206
  z34 := Tryz.sizeOf206
  v34 := Tryz.zeroValue206
  i34 := by kernel_rfl
  c34 := by kernel_rfl
  t36 := Tryz.underlying163
  a36 := Tryz.isAgg163
  z36 := Tryz.sizeOf163
  v36 := Tryz.zeroValue163
  i36 := by kernel_rfl
  t37 := Tryz.underlying132
  a37 := Tryz.isAgg132
  z37 := Tryz.sizeOf132
  v37 := Tryz.zeroValue132
  i37 := by kernel_rfl
  t39 := Tryz.underlying208
  a39 := Tryz.isAgg208
  z39 := Tryz.sizeOf208
  v39 := Tryz.zeroValue208
  i39 := by kernel_rfl
  t44 := Tryz.underlying234
  a44 := Tryz.isAgg234
  z44 := Tryz.sizeOf234
  v44 := Tryz.zeroValue234
  i44 := by kernel_rfl
  t47 := Tryz.underlying204
  a47 := Tryz.isAgg204
  z47 := Tryz.sizeOf204
  v47 := Tryz.zeroValue204
  i47 := by kernel_rfl
  t48 := Tryz.underlying245
  a48 := Tryz.isAgg245
  z48 := Tryz.sizeOf245
  v48 := Tryz.zeroValue245
  i48 := by kernel_rfl
  t50 := Tryz.underlying247
  a50 := Tryz.isAgg247
  z50 := Tryz.sizeOf247
  v50 := Tryz.zeroValue247
  i50 := by kernel_rfl
  t52 := Tryz.underlying211
  a52 := Tryz.isAgg211
  z52 := Tryz.sizeOf211
  v52 := Tryz.zeroValue211
  i52 := by kernel_rfl
  t55 := Tryz.underlying214
  a55 := Tryz.isAgg214
  z55 := Tryz.sizeOf214
  v55 := Tryz.zeroValue214
  i55 := by kernel_rfl
  t59 := Tryz.underlying237
  a59 := Tryz.isAgg237
  z59 := Tryz.sizeOf237
  v59 := Tryz.zeroValue237
  i59 := by kernel_rfl
  t60 := Tryz.underlying200
  a60 := Tryz.isAgg200
  z60 := Tryz.sizeOf200
  v60 := Tryz.zeroValue200
  i60 := by kernel_rfl
  t61 := Tryz.underlying238
  a61 := Tryz.isAgg238
  z61 := Tryz.sizeOf238
  t65 := Tryz.underlying257
  a65 := Tryz.isAgg257
  z65 := Tryz.sizeOf257
  v65 := Tryz.zeroValue257
  i65 := by kernel_rfl
  t66 := Tryz.underlying258
  a66 := Tryz.isAgg258
  z66 := Tryz.sizeOf258
  v66 := Tryz.zeroValue258
  i66 := by kernel_rfl
  t67 := Tryz.underlying173
  a67 := Tryz.isAgg173
  z67 := Tryz.sizeOf173
  v67 := Tryz.zeroValue173
  i67 := by kernel_rfl
  g0 := by kernel_rfl
  m0 := by kernel_rfl
  g1 := by kernel_rfl
  m1 := by kernel_rfl
  g2 := by kernel_rfl
  m2 := by kernel_rfl
  g3 := by kernel_rfl
  m3 := by kernel_rfl
  g4 := by kernel_rfl
  m4 := by kernel_rfl }
end Go.Proofs
end
section
set_option linter.unusedVariables false
namespace Go.Proofs.YtpoiijkodpnobaaGreatDoor
open Go Go.Fw Go.RowKit Go.Shelf
def parseU (l : List UInt8) : Int × Bool := match Lib.parseUintB 64 l with
  | .ok u => ((u : Int), false)
  | .«syntax» => (0, true)
  | .range => (18446744073709551615, true)
abbrev strconv_ParseUint.As : Shs := .cons (.x .s) (.cons (.x (.i .i64)) (.cons (.x (.i .i64)) .nil))
abbrev strconv_ParseUint.m : Back := [(false, .i .u64), (false, .e)]
abbrev strconv_ParseUint.f (a : (ByteArray × (Int × Int))) : Option (Int × Bool) := bif decide (a.2.1 = 10) && decide (a.2.2 = 64) && decide (a.1.size ≤ 281474976710656) then some (parseU a.1.data.toList) else none
noncomputable abbrev strconv_ParseUint.row : Row := fnRow 86 strconv_ParseUint.As strconv_ParseUint.m strconv_ParseUint.f
theorem bytes_below (w : World) (t : TypeId) (s : ByteArray) : Below w.heap.size w (Lib.bytesWorld w t s) := by
  unfold Lib.bytesWorld World.freeze
  rw [if_neg (by decide)]
  refine ⟨rfl, rfl, rfl, by simp, fun k hk => ?_⟩
  show ((w.heap.push _).modify _ _)[k]? = _
  rw [Array.getElem?_modify, if_neg (by show ¬ w.heap.size = k; omega), Array.getElem?_push, if_neg (by omega)]
theorem strconv_ParseUint.row_ok : RowOK P G1 strconv_ParseUint.row := by
  have key : ∀ (ds : List D) (a : ByteArray × (Int × Int)) (q : Int × Bool), decArgs strconv_ParseUint.As ds = some a → strconv_ParseUint.f a = some q → Fw.Enters P 86 ∧ PCall P G1 86 ds (.tp [.i .u64 q.1, .er q.2]) := by
    intro ds a q ha hq
    refine ⟨ent_of Tryz.func86 (by kernel_rfl) (by kernel_rfl), ?_⟩
    have hds := (decArgs_argD ha).symm
    refine PCall.coe (ds' := argD strconv_ParseUint.As a) ?_ (by rw [← hds]; exact coeA_len) fun w I f hf => by rw [← hds]; exact coeA_rel hf
    refine pcall_below fun w I K vs hg hsz hr => ?_
    have h0 := hr 0 (.s a.1) rfl
    have h1 := hr 1 (.i .i64 a.2.1) rfl
    have h2 := hr 2 (.i .i64 a.2.2) rfl
    have hvs : vs = #[.string a.1, .int .i64 a.2.1, .int .i64 a.2.2] := by
      have hs : vs.size = 3 := hsz
      rw [Array.getD_eq_getD_getElem?, Array.getElem?_eq_getElem (by omega)] at h0 h1 h2
      simp only [Option.getD_some] at h0 h1 h2
      refine Array.ext (by simpa using hs) fun i hi hi' => ?_
      match i, hi with
      | 0, _ => cases h : vs[0] <;> rw [h] at h0 <;> cases h0; rfl
      | 1, _ => cases h : vs[1] <;> rw [h] at h1 <;> cases h1; rfl
      | 2, _ => cases h : vs[2] <;> rw [h] at h2 <;> cases h2; rfl
      | i + 3, hi => omega
    subst hvs
    unfold strconv_ParseUint.f at hq
    obtain ⟨hb, hq⟩ := cond_some hq
    simp only [Bool.and_eq_true, decide_eq_true_eq] at hb
    obtain ⟨⟨h3, h4⟩, h5⟩ := hb
    rw [h3, h4]
    injection hq with hq
    subst hq
    unfold parseU
    have tup : ∀ (w' : World) (n : Int) (b : Bool) (v : Value), RelD w' I (.er b) v → RelX w' I K (.tp [.i .u64 n, .er b]) (.tuple #[.int .u64 n, v]) := fun w' n b v hv => ⟨_, rfl, RelD.i .u64 n, ⟨hv, trivial, fun b h => by cases b <;> cases h⟩, fun b h => by cases h⟩
    cases hp : Lib.parseUintB 64 a.1.data.toList with
    | ok u =>
      refine (Any.strconv_ParseUint_10_at64_ok Tryz.laysPu14 a.1 (by omega) u hp w).mono ?_
      rintro e w' ⟨rfl, hw⟩
      refine ⟨_, rfl, ?_, tup w' u false _ .er0⟩
      rcases hw with rfl | rfl
      · exact .refl _ _
      · exact bytes_below _ _ _
    | «syntax» =>
      obtain ⟨tp, p, hv⟩ := err_of_glob (P := P) hg (g := 2) (name := "strconv.ErrSyntax") (by kernel_rfl) rfl
      refine (Any.strconv_ParseUint_10_at64_syntax_var Tryz.laysPu14 a.1 h5 hp tp p w hv).mono ?_
      rintro e w' ⟨N, rfl, _, _, hb⟩
      exact ⟨_, rfl, hb, tup w' 0 true _ (.er1 _ _)⟩
    | range =>
      obtain ⟨tp, p, hv⟩ := err_of_glob (P := P) hg (g := 3) (name := "strconv.ErrRange") (by kernel_rfl) rfl
      refine (Any.strconv_ParseUint_10_at64_range_var Tryz.laysPu14 a.1 h5 hp tp p w hv).mono ?_
      rintro e w' ⟨N, rfl, _, _, hb⟩
      exact ⟨_, rfl, hb, tup w' 18446744073709551615 true _ (.er1 _ _)⟩
  exact fun ds a q => key ds a q
end Go.Proofs.YtpoiijkodpnobaaGreatDoor
end
section
set_option linter.unusedVariables false
set_option linter.unusedSimpArgs false
namespace Go.Proofs.YtpoiijkodpnobaaGreatDoor
open Go Go.Fw
def body (n : Nat) : List UInt8 := decP 19 (n / 1000) ++ [dgt (n / 100 % 10), 46, dgt (n / 10 % 10), dgt (n % 10)]
theorem fmtU_is {n : Nat} (h : n < 18446744073709551616) : fmtU ((n : Int), 10) = some (bs (decF 20 n)) := by
  unfold fmtU
  have h1 : (decide ((0 : Int) ≤ (n : Int)) && decide ((n : Int) < 18446744073709551616) && decide ((10 : Int) = 10)) = true := by
    have h0 : (n : Int) < 18446744073709551616 := by omega
    simp [h0]
  rw [h1]
  simp [bs]
end Go.Proofs.YtpoiijkodpnobaaGreatDoor
end
section
set_option linter.unusedVariables false
set_option maxRecDepth 100000
namespace Go.Proofs.YtpoiijkodpnobaaGreatDoor
open Go Go.Fw
abbrev trade_pan.As : Shs := (.cons (.x .s) .nil)
abbrev trade_pan.m : Back := [(false, .b)]
noncomputable abbrev trade_pan.H : HK := hk P G0 E0 J0 [chart_May.row] noLoops 4
theorem trade_pan.rows : TabOK P G0 (tabF [chart_May.row]) := rows_ok (ws := [chart_May.row]) ⟨chart_May.row_ok, trivial⟩
theorem trade_pan.hok : HKOK P trade_pan.H := hk_ok e0_ok j0_ok trade_pan.rows (fun g n => noLoops_ok g n) 4
noncomputable def trade_pan.f (a : ByteArray) : Option Bool := (((chart_May.f ((1 : Int), a))).bind fun x1 => (some x1))
theorem trade_pan.ok : ∀ a : Vals trade_pan.As.tys, fnK P trade_pan.H (lp []) 47 trade_pan.As trade_pan.m a some = trade_pan.f a := fun a => by kernel_rfl
noncomputable abbrev trade_pan.row : Row := fnRow 47 trade_pan.As trade_pan.m trade_pan.f
theorem trade_pan.row_ok : RowOK P G0 trade_pan.row := row_told trade_pan.hok (lp_of (l := []) trivial) (fun _ => rfl) trade_pan.ok
abbrev trade_acq.As : Shs := (.cons (.x .s) .nil)
abbrev trade_acq.m : Back := [(false, .b)]
noncomputable abbrev trade_acq.H : HK := hk P G0 E0 J0 [chart_May.row] noLoops 4
theorem trade_acq.rows : TabOK P G0 (tabF [chart_May.row]) := rows_ok (ws := [chart_May.row]) ⟨chart_May.row_ok, trivial⟩
theorem trade_acq.hok : HKOK P trade_acq.H := hk_ok e0_ok j0_ok trade_acq.rows (fun g n => noLoops_ok g n) 4
noncomputable def trade_acq.f (a : ByteArray) : Option Bool := (((chart_May.f ((2 : Int), a))).bind fun x1 => (some x1))
theorem trade_acq.ok : ∀ a : Vals trade_acq.As.tys, fnK P trade_acq.H (lp []) 48 trade_acq.As trade_acq.m a some = trade_acq.f a := fun a => by kernel_rfl
noncomputable abbrev trade_acq.row : Row := fnRow 48 trade_acq.As trade_acq.m trade_acq.f
theorem trade_acq.row_ok : RowOK P G0 trade_acq.row := row_told trade_acq.hok (lp_of (l := []) trivial) (fun _ => rfl) trade_acq.ok
abbrev trade_May.As : Shs := (.cons (.x T_api_Post) .nil)
abbrev trade_May.m : Back := [(false, .b)]
noncomputable abbrev trade_May.H : HK := hk P G0 E0 J0 [trade_pan.row, trade_acq.row, hold_Ref.row] noLoops 4
theorem trade_May.rows : TabOK P G0 (tabF [trade_pan.row, trade_acq.row, hold_Ref.row]) := rows_ok (ws := [trade_pan.row, trade_acq.row, hold_Ref.row]) ⟨trade_pan.row_ok, ⟨trade_acq.row_ok, ⟨hold_Ref.row_ok, trivial⟩⟩⟩
theorem trade_May.hok : HKOK P trade_May.H := hk_ok e0_ok j0_ok trade_May.rows (fun g n => noLoops_ok g n) 4
noncomputable def trade_May.f (a : (Int × (Int × (ByteArray × (ByteArray × (ByteArray × Int)))))) : Option Bool := (bif (decide ((a.2.1 < (0 : Int)))) then (some false) else (bif (decide ((a.2.1 > (2147483647 : Int)))) then (some false) else (bif (decide ((a.2.2.2.2.2 < (1 : Int)))) then (some false) else (bif (decide ((a.2.2.2.2.2 > (9999999999999 : Int)))) then (some false) else (bif (a.1 == (1 : Int)) then (((trade_pan.f a.2.2.1)).bind fun x1 => (bif x1 then (bif ((ByteArray.toList a.2.2.2.1) == []) then (some ((ByteArray.toList a.2.2.2.2.1) == [])) else (some false)) else (some false))) else (bif (a.1 == (2 : Int)) then (bif (a.1 == (2 : Int)) then (((trade_pan.f a.2.2.1)).bind fun x1 => (bif x1 then (((trade_acq.f a.2.2.2.1)).bind fun x2 => (bif x2 then (((hold_Ref.f a.2.2.2.2.1)).bind fun x3 => (some x3)) else (some false))) else (some false))) else (bif (a.1 == (5 : Int)) then (bif (a.1 == (5 : Int)) then (bif ((ByteArray.toList a.2.2.1) == []) then (((trade_acq.f a.2.2.2.1)).bind fun x1 => (bif x1 then (some ((ByteArray.toList a.2.2.2.2.1) == [])) else (some false))) else (some false)) else (some false)) else (bif (a.1 == (6 : Int)) then (bif ((ByteArray.toList a.2.2.1) == []) then (((trade_acq.f a.2.2.2.1)).bind fun x1 => (bif x1 then (some ((ByteArray.toList a.2.2.2.2.1) == [])) else (some false))) else (some false)) else (some false)))) else (bif (a.1 == (3 : Int)) then (bif (a.1 == (3 : Int)) then (((trade_pan.f a.2.2.1)).bind fun x1 => (bif x1 then (((trade_acq.f a.2.2.2.1)).bind fun x2 => (bif x2 then (((hold_Ref.f a.2.2.2.2.1)).bind fun x3 => (some x3)) else (some false))) else (some false))) else (bif (a.1 == (5 : Int)) then (bif (a.1 == (5 : Int)) then (bif ((ByteArray.toList a.2.2.1) == []) then (((trade_acq.f a.2.2.2.1)).bind fun x1 => (bif x1 then (some ((ByteArray.toList a.2.2.2.2.1) == [])) else (some false))) else (some false)) else (some false)) else (bif (a.1 == (6 : Int)) then (bif ((ByteArray.toList a.2.2.1) == []) then (((trade_acq.f a.2.2.2.1)).bind fun x1 => (bif x1 then (some ((ByteArray.toList a.2.2.2.2.1) == [])) else (some false))) else (some false)) else (some false)))) else (bif (a.1 == (4 : Int)) then (((trade_pan.f a.2.2.1)).bind fun x1 => (bif x1 then (((trade_acq.f a.2.2.2.1)).bind fun x2 => (bif x2 then (((hold_Ref.f a.2.2.2.2.1)).bind fun x3 => (some x3)) else (some false))) else (some false))) else (bif (a.1 == (5 : Int)) then (bif (a.1 == (5 : Int)) then (bif ((ByteArray.toList a.2.2.1) == []) then (((trade_acq.f a.2.2.2.1)).bind fun x1 => (bif x1 then (some ((ByteArray.toList a.2.2.2.2.1) == [])) else (some false))) else (some false)) else (some false)) else (bif (a.1 == (6 : Int)) then (bif ((ByteArray.toList a.2.2.1) == []) then (((trade_acq.f a.2.2.2.1)).bind fun x1 => (bif x1 then (some ((ByteArray.toList a.2.2.2.2.1) == [])) else (some false))) else (some false)) else (some false)))))))))))
theorem trade_May.ok : ∀ a : Vals trade_May.As.tys, fnK P trade_May.H (lp []) 17 trade_May.As trade_May.m a some = trade_May.f a := fun a => by kernel_rfl
noncomputable abbrev trade_May.row : Row := fnRow 17 trade_May.As trade_May.m trade_May.f
theorem trade_May.row_ok : RowOK P G0 trade_May.row := row_told trade_May.hok (lp_of (l := []) trivial) (fun _ => rfl) trade_May.ok
noncomputable def bursarref20_pan.f (a : ByteArray) : Option Bool := (((bursarref11_Name.f ((1 : Int), a))).bind fun x1 => (some x1.2))
noncomputable def bursarref20_acq.f (a : ByteArray) : Option Bool := (bif ((a.size : Int) == (6 : Int)) then (((bursarref02_All.f a)).bind fun x1 => (some x1)) else (some false))
end Go.Proofs.YtpoiijkodpnobaaGreatDoor
end
section
set_option linter.unusedVariables false
set_option linter.unusedSimpArgs false
namespace Go.Proofs.YtpoiijkodpnobaaGreatDoor
open Go Go.Fw
abbrev Po := Int × (Int × (ByteArray × (ByteArray × (ByteArray × Int))))
def okNum (p : Po) : Bool := decide (0 ≤ p.2.1) && (decide (p.2.1 ≤ 2147483647) && (decide (1 ≤ p.2.2.2.2.2) && decide (p.2.2.2.2.2 ≤ 9999999999999)))
def mayK (p : Po) : Bool := bif p.1 == 1 then cardB p.2.2.1 && (decide (p.2.2.2.1 = bs []) && decide (p.2.2.2.2.1 = bs []))
  else bif p.1 == 5 || p.1 == 6 then decide (p.2.2.1 = bs []) && (acqB p.2.2.2.1 && decide (p.2.2.2.2.1 = bs []))
  else bif decide (2 ≤ p.1) && decide (p.1 ≤ 4) then cardB p.2.2.1 && (acqB p.2.2.2.1 && refB p.2.2.2.2.1) else false
def mayP (p : Po) : Bool := okNum p && mayK p
theorem tpan_is (s : ByteArray) : trade_pan.f s = some (cardB s) := by
  unfold trade_pan.f
  rw [card_is, Option.bind_some]
theorem tacq_is (s : ByteArray) : trade_acq.f s = some (acqB s) := by
  unfold trade_acq.f
  rw [acq_is, Option.bind_some]
theorem rpan_is (s : ByteArray) : bursarref20_pan.f s = some (cardB s) := by
  unfold bursarref20_pan.f
  obtain ⟨t, h⟩ := ref_card_is s
  rw [h, Option.bind_some]
theorem racq_is (s : ByteArray) (hs : s.size ≤ 4611686018427387904) : bursarref20_acq.f s = some (acqB s) := by
  unfold bursarref20_acq.f acqB
  have := size_is (s := s) 6
  rw [show ((6 : Nat) : Int) = 6 from rfl] at this
  rw [this, ref_All_is s hs]
  cases s.size == 6 <;> rfl
theorem okNum_no {k b : Int} {x y z : ByteArray} {n : Int} : (b < 0 → okNum (k, b, x, y, z, n) = false) ∧ (b > 2147483647 → okNum (k, b, x, y, z, n) = false) ∧ (n < 1 → okNum (k, b, x, y, z, n) = false) ∧ (n > 9999999999999 → okNum (k, b, x, y, z, n) = false) := by
  unfold okNum
  refine ⟨fun h => ?_, fun h => ?_, fun h => ?_, fun h => ?_⟩
  · rw [decide_eq_false (show ¬ (0 : Int) ≤ b by omega)]; rfl
  · rw [decide_eq_false (show ¬ b ≤ (2147483647 : Int) by omega)]; simp
  · rw [decide_eq_false (show ¬ (1 : Int) ≤ n by omega)]; simp
  · rw [decide_eq_false (show ¬ n ≤ (9999999999999 : Int) by omega)]; simp
theorem tradeMay_is {p : Po} (hr : p.2.2.2.2.1.size ≤ 4611686018427387904) : trade_May.f p = some (mayP p) := by
  obtain ⟨k, b, x, y, z, n⟩ := p
  obtain ⟨n1, n2, n3, n4⟩ := okNum_no (k := k) (b := b) (x := x) (y := y) (z := z) (n := n)
  unfold trade_May.f mayP
  simp only
  by_cases h1 : b < 0
  · simp only [decide_eq_true h1, cond_true, n1 h1, Bool.false_and]
  by_cases h2 : b > 2147483647
  · simp only [decide_eq_false h1, decide_eq_true h2, cond_true, cond_false, n2 h2, Bool.false_and]
  by_cases h3 : n < 1
  · simp only [decide_eq_false h1, decide_eq_false h2, decide_eq_true h3, cond_true, cond_false, n3 h3, Bool.false_and]
  by_cases h4 : n > 9999999999999
  · simp only [decide_eq_false h1, decide_eq_false h2, decide_eq_false h3, decide_eq_true h4, cond_true, cond_false, n4 h4, Bool.false_and]
  have hn : okNum (k, b, x, y, z, n) = true := by
    unfold okNum
    simp only [Bool.and_eq_true, decide_eq_true_eq]
    omega
  have hr' : hold_Ref.f z = some (refB z) := hold_Ref_is z hr
  simp only [decide_eq_false h1, decide_eq_false h2, decide_eq_false h3, decide_eq_false h4, cond_false, hn, Bool.true_and, tpan_is, tacq_is, hr', Option.bind_some, texts_nil]
  unfold mayK
  simp only
  by_cases k1 : k = 1
  · subst k1; cases cardB x <;> cases decide (y = bs []) <;> rfl
  by_cases k2 : k = 2
  · subst k2; cases cardB x <;> cases acqB y <;> cases refB z <;> rfl
  by_cases k3 : k = 3
  · subst k3; cases cardB x <;> cases acqB y <;> cases refB z <;> rfl
  by_cases k4 : k = 4
  · subst k4; cases cardB x <;> cases acqB y <;> cases refB z <;> rfl
  by_cases k5 : k = 5
  · subst k5; cases decide (x = bs []) <;> cases acqB y <;> rfl
  by_cases k6 : k = 6
  · subst k6; cases decide (x = bs []) <;> cases acqB y <;> rfl
  have e1 : (k == 1) = false := by simpa using k1
  have e2 : (k == 2) = false := by simpa using k2
  have e3 : (k == 3) = false := by simpa using k3
  have e4 : (k == 4) = false := by simpa using k4
  have e5 : (k == 5) = false := by simpa using k5
  have e6 : (k == 6) = false := by simpa using k6
  have e7 : (decide (2 ≤ k) && decide (k ≤ 4)) = false := by
    simp only [Bool.and_eq_false_iff, decide_eq_false_iff_not]; omega
  simp only [e1, e2, e3, e4, e5, e6, e7, cond_false, Bool.or_false]
end Go.Proofs.YtpoiijkodpnobaaGreatDoor
end
section
set_option linter.unusedVariables false
set_option linter.unusedSimpArgs false
namespace Go.Proofs.YtpoiijkodpnobaaGreatDoor
open Go Go.Fw
theorem mayP_kind {p : Po} (h : mayP p = true) : p.1 = 1 ∨ p.1 = 2 ∨ p.1 = 3 ∨ p.1 = 4 ∨ p.1 = 5 ∨ p.1 = 6 := by
  unfold mayP mayK at h
  simp only [Bool.and_eq_true] at h
  have h := h.2
  by_cases k1 : p.1 = 1
  · exact .inl k1
  have e1 : (p.1 == 1) = false := by simpa using k1
  rw [e1, cond_false] at h
  by_cases k5 : p.1 = 5
  · omega
  by_cases k6 : p.1 = 6
  · omega
  have e5 : (p.1 == 5) = false := by simpa using k5
  have e6 : (p.1 == 6) = false := by simpa using k6
  rw [e5, e6, Bool.or_self, cond_false] at h
  cases hk : (decide (2 ≤ p.1) && decide (p.1 ≤ 4))
  · rw [hk] at h; cases h
  · simp only [Bool.and_eq_true, decide_eq_true_eq] at hk; omega
theorem mayP_num {p : Po} (h : mayP p = true) : (0 ≤ p.2.1 ∧ p.2.1 ≤ 2147483647) ∧ 1 ≤ p.2.2.2.2.2 ∧ p.2.2.2.2.2 ≤ 9999999999999 := by
  unfold mayP okNum at h
  simp only [Bool.and_eq_true, decide_eq_true_eq] at h
  omega
theorem mayP_parts {p : Po} (h : mayP p = true) : (p.1 = 1 → cardB p.2.2.1 = true ∧ p.2.2.2.1 = bs [] ∧ p.2.2.2.2.1 = bs []) ∧ (p.1 = 5 ∨ p.1 = 6 → p.2.2.1 = bs [] ∧ acqB p.2.2.2.1 = true ∧ p.2.2.2.2.1 = bs []) ∧
    (2 ≤ p.1 ∧ p.1 ≤ 4 → cardB p.2.2.1 = true ∧ acqB p.2.2.2.1 = true ∧ refB p.2.2.2.2.1 = true) := by
  obtain ⟨k, b, x, y, z, n⟩ := p
  unfold mayP mayK at h
  simp only [Bool.and_eq_true] at h
  have h := h.2
  refine ⟨fun hk => ?_, fun hk => ?_, fun hk => ?_⟩
  · have hk : k = 1 := hk
    subst hk
    simp only [BEq.rfl, cond_true, Bool.and_eq_true, decide_eq_true_eq] at h
    exact h
  · have hk : k = 5 ∨ k = 6 := hk
    rcases hk with rfl | rfl
    · simpa using h
    · simpa using h
  · have hk : 2 ≤ k ∧ k ≤ 4 := hk
    have e1 : (k == 1) = false := by simp; omega
    have e5 : (k == 5) = false := by simp; omega
    have e6 : (k == 6) = false := by simp; omega
    simp only [e1, e5, e6, cond_false, Bool.or_self, decide_eq_true hk.1, decide_eq_true hk.2, Bool.and_self, cond_true, Bool.and_eq_true] at h
    exact h
def smallP (p : Po) : Prop := p.2.2.1.size ≤ 20 ∧ p.2.2.2.1.size ≤ 20 ∧ p.2.2.2.2.1.size ≤ 20
end Go.Proofs.YtpoiijkodpnobaaGreatDoor
end
section
set_option linter.unusedVariables false
set_option linter.unusedSimpArgs false
namespace Go.Proofs.YtpoiijkodpnobaaGreatDoor
open Go Go.Fw
theorem drop_cons {α : Type} {l r : List α} {c : α} {i : Nat} (d : α) (h : l.drop i = c :: r) : l.getD i d = c ∧ l.drop (i + 1) = r ∧ i + 1 + r.length = l.length := by
  have hl := congrArg List.length h
  simp only [List.length_drop, List.length_cons] at hl
  refine ⟨?_, ?_, by omega⟩
  · have := congrArg (fun x => x[0]?) h
    simp only [List.getElem?_drop, List.getElem?_cons_zero, Nat.add_zero] at this
    rw [List.getD_eq_getElem?_getD, this]; rfl
  · rw [← List.drop_drop, h]; rfl
end Go.Proofs.YtpoiijkodpnobaaGreatDoor
end
section
namespace Go.Proofs
open Go.Shelf
def Tryz.lays105_ren : Go.Shelf.Ren := ⟨fun | 105 => 74 | 212 => 109 | 99 => 110 | 165 => 111 | 166 => 112 | 170 => 113 | 169 => 114 | 263 => 143 | 264 => 144 | 206 => 145 | 240 => 146 | 241 => 147 | 276 => 171 | 277 => 172 | n => n, fun | 9 => 9 | 3 => 3 | 4 => 4 | 20 => 20 | 0 => 0 | 46 => 163 | 109 => 164 | 5 => 5 | 72 => 169 | 76 => 170 | 51 => 200 | 146 => 201 | 53 => 95 | 148 => 185 | 70 => 167 | 37 => 132 | 75 => 141 | 127 => 204 | 164 => 225 | 80 => 173 | n => n, fun | n => n⟩
theorem Tryz.lays105 : Go.Proofs.Lays.n105 Tryz.prog Tryz.lays105_ren := {
  mixed := by kernel_rfl
  f99 := Tryz.func110.trans (congrArg some (by kernel_rfl))
  f105 := Tryz.func74.trans (congrArg some (by kernel_rfl))
  f165 := Tryz.func111.trans (congrArg some (by kernel_rfl))
  f166 := Tryz.func112.trans (congrArg some (by kernel_rfl))
  f169 := Tryz.func114.trans (congrArg some (by kernel_rfl))
  f170 := Tryz.func113.trans (congrArg some (by kernel_rfl))
  f206 := Tryz.func145.trans (congrArg some (by kernel_rfl))
  f212 := Tryz.func109.trans (congrArg some (by kernel_rfl))
  f240 := Tryz.func146.trans (congrArg some (by kernel_rfl))
  f241 := Tryz.func147.trans (congrArg some (by kernel_rfl))
  f263 := Tryz.func143.trans (congrArg some (by kernel_rfl))
  f264 := Tryz.func144.trans (congrArg some (by kernel_rfl))
  f276 := Tryz.func171.trans (congrArg some (by kernel_rfl))
  f277 := Tryz.func172.trans (congrArg some (by kernel_rfl))
  t0 := Tryz.underlying0
  a0 := Tryz.isAgg0
  z0 := Tryz.sizeOf0
  v0 := Tryz.zeroValue0
  t3 := Tryz.underlying3
  a3 := Tryz.isAgg3
  z3 := Tryz.sizeOf3
  v3 := Tryz.zeroValue3
  t4 := Tryz.underlying4
  a4 := Tryz.isAgg4
  z4 := Tryz.sizeOf4
  v4 := Tryz.zeroValue4
  t5 := Tryz.underlying5
  a5 := Tryz.isAgg5
  z5 := Tryz.sizeOf5
  v5 := Tryz.zeroValue5
  t9 := Tryz.underlying9
  a9 := Tryz.isAgg9
  z9 := Tryz.sizeOf9
  v9 := Tryz.zeroValue9
  t20 := Tryz.underlying20
  a20 := Tryz.isAgg20
  z20 := Tryz.sizeOf20
  v20 := Tryz.zeroValue20
  t37 := Tryz.underlying132
  a37 := Tryz.isAgg132
  z37 := Tryz.sizeOf132
  v37 := Tryz.zeroValue132
  t46 := Tryz.underlying163
  a46 := Tryz.isAgg163
  z46 := Tryz.sizeOf163
  v46 := Tryz.zeroValue163
  t51 := Tryz.underlying200
  a51 := Tryz.isAgg200
  z51 := Tryz.sizeOf200
  v51 := Tryz.zeroValue200
  t53 := Tryz.underlying95
  a53 := Tryz.isAgg95
  z53 := Tryz.sizeOf95
  v53 := Tryz.zeroValue95
  t70 := Tryz.underlying167
  a70 := Tryz.isAgg167
  z70 := Tryz.sizeOf167
  v70 := Tryz.zeroValue167
  t72 := Tryz.underlying169
  a72 := Tryz.isAgg169
  z72 := Tryz.sizeOf169
  v72 := Tryz.zeroValue169
  t75 := Tryz.underlying141
  a75 := Tryz.isAgg141
  z75 := Tryz.sizeOf141
  v75 := Tryz.zeroValue141
  t76 := Tryz.underlying170
  a76 := Tryz.isAgg170
  z76 := Tryz.sizeOf170
  v76 := Tryz.zeroValue170
  t109 := Tryz.underlying164
  a109 := Tryz.isAgg164
  z109 := Tryz.sizeOf164
  v109 := Tryz.zeroValue164
  t127 := Tryz.underlying204
  a127 := Tryz.isAgg204
  z127 := Tryz.sizeOf204
  v127 := Tryz.zeroValue204
  t146 := Tryz.underlying201
  a146 := Tryz.isAgg201
  z146 := Tryz.sizeOf201
  v146 := Tryz.zeroValue201
  t148 := Tryz.underlying185
  a148 := Tryz.isAgg185
  z148 := Tryz.sizeOf185
  v148 := Tryz.zeroValue185
  t164 := Tryz.underlying225
  a164 := Tryz.isAgg225
  z164 := Tryz.sizeOf225
  v164 := Tryz.zeroValue225 }
end Go.Proofs
end
section
set_option linter.unusedVariables false
namespace Go.Proofs.YtpoiijkodpnobaaGreatDoor
open Go Go.Fw Go.RowKit Go.Shelf
theorem repExtra : Builder.Extra P Tryz.lays105_ren where
  sizeBuilder := by kernel_rfl
  liesBuilder := by kernel_rfl
  t5 := Tryz.lays105.t5
  a5 := Tryz.lays105.a5
  z5 := Tryz.lays105.z5
  v5 := Tryz.lays105.v5
  infoByte := by kernel_rfl
  cellsByte := by kernel_rfl
  sizeByte := by kernel_rfl
  neB5 := by decide
def repeatT (s : ByteArray) (n : Int) : Option ByteArray := bif decide (0 ≤ n) && (decide (n ≤ 140737488355328) && decide (s.size * n.toNat ≤ 140737488355328)) then some ⟨(Lib.repeatL s.data.toList n.toNat).toArray⟩ else none
abbrev strings_Repeat.As : Shs := .cons (.x .s) (.cons (.x (.i .i64)) .nil)
abbrev strings_Repeat.m : Back := [(false, .s)]
abbrev strings_Repeat.f (a : (ByteArray × Int)) : Option ByteArray := repeatT a.1 a.2
noncomputable abbrev strings_Repeat.row : Row := fnRow 74 strings_Repeat.As strings_Repeat.m strings_Repeat.f
theorem strings_Repeat.row_ok : RowOK P G0 strings_Repeat.row := by
  have key : ∀ (ds : List D) (a : ByteArray × Int) (q : ByteArray), decArgs strings_Repeat.As ds = some a → strings_Repeat.f a = some q → Fw.Enters P 74 ∧ PCall P G0 74 ds (.s q) := by
    intro ds a q ha hq
    refine ⟨ent_of Tryz.func74 (by kernel_rfl) (by kernel_rfl), ?_⟩
    have hds := (decArgs_argD ha).symm
    refine PCall.coe (ds' := argD strings_Repeat.As a) ?_ (by rw [← hds]; exact coeA_len) fun w I f hf => by rw [← hds]; exact coeA_rel hf
    refine pcall_below fun w I K vs hg hsz hr => ?_
    have h0 := hr 0 (.s a.1) rfl
    have h1 := hr 1 (.i .i64 a.2) rfl
    have hvs : vs = #[.string a.1, .int .i64 a.2] := by
      have hs : vs.size = 2 := hsz
      rw [Array.getD_eq_getD_getElem?, Array.getElem?_eq_getElem (by omega)] at h0 h1
      simp only [Option.getD_some] at h0 h1
      refine Array.ext (by simpa using hs) fun i hi hi' => ?_
      match i, hi with
      | 0, _ => cases h : vs[0] <;> rw [h] at h0 <;> cases h0; rfl
      | 1, _ => cases h : vs[1] <;> rw [h] at h1 <;> cases h1; rfl
      | i + 2, hi => omega
    subst hvs
    unfold strings_Repeat.f repeatT at hq
    obtain ⟨hb, hq⟩ := cond_some hq
    simp only [Bool.and_eq_true, decide_eq_true_eq] at hb
    obtain ⟨h2, h3, h4⟩ := hb
    injection hq with hq
    subst hq
    obtain ⟨u, hu⟩ : ∃ u : Nat, a.2 = u := ⟨a.2.toNat, by omega⟩
    rw [hu] at h2 h3 h4 ⊢
    rw [Int.toNat_natCast] at h4 ⊢
    refine (Any.strings_Repeat Tryz.lays105 repExtra a.1 u w (by omega) h4).mono ?_
    rintro e w' ⟨rfl, hb⟩
    exact ⟨_, rfl, hb, RelD.s _⟩
  exact fun ds a q => key ds a q
end Go.Proofs.YtpoiijkodpnobaaGreatDoor
end
section
set_option linter.unusedVariables false
set_option maxRecDepth 100000
namespace Go.Proofs.YtpoiijkodpnobaaGreatDoor
open Go Go.Fw
abbrev digit_Put.As : Shs := (.cons (.x (.i .u64)) (.cons (.x (.i .i64)) .nil))
abbrev digit_Put.m : Back := [(false, .s), (false, (.i .i64))]
noncomputable abbrev digit_Put.H : HK := hk P G0 E0 J0 [strings_Repeat.row, strconv_FormatUint.row] noLoops 4
theorem digit_Put.rows : TabOK P G0 (tabF [strings_Repeat.row, strconv_FormatUint.row]) := rows_ok (ws := [strings_Repeat.row, strconv_FormatUint.row]) ⟨strings_Repeat.row_ok, ⟨strconv_FormatUint.row_ok, trivial⟩⟩
theorem digit_Put.hok : HKOK P digit_Put.H := hk_ok e0_ok j0_ok digit_Put.rows (fun g n => noLoops_ok g n) 4
noncomputable def digit_Put.f (a : (Int × Int)) : Option (ByteArray × Int) := (bif (decide ((a.2 < (1 : Int)))) then (some ((bs []), (1 : Int))) else (bif (decide ((a.2 > (19 : Int)))) then (some ((bs []), (1 : Int))) else (((strconv_FormatUint.f (a.1, (10 : Int)))).bind fun x2 => (bif (decide (((x2.size : Int) > a.2))) then (some ((bs []), (2 : Int))) else (((strings_Repeat.f ((bs [48]), (IntKind.wrap .i64 (a.2 - (x2.size : Int)))))).bind fun x3 => (bif (Nat.ble (x3.size + x2.size) 9223372036854775807) then (some ((x3 ++ x2), (0 : Int))) else none))))))
theorem digit_Put.ok : ∀ a : Vals digit_Put.As.tys, fnK P digit_Put.H (lp []) 51 digit_Put.As digit_Put.m a some = digit_Put.f a := fun a => by kernel_rfl
noncomputable abbrev digit_Put.row : Row := fnRow 51 digit_Put.As digit_Put.m digit_Put.f
theorem digit_Put.row_ok : RowOK P G0 digit_Put.row := row_told digit_Put.hok (lp_of (l := []) trivial) (fun _ => rfl) digit_Put.ok
noncomputable def bursarref02_Get.t10 (s : (ByteArray × (Int × Int))) : Option ((ByteArray × (Int × Int)) ⊕ (Int)) := (bif (decide ((s.2.2 < (s.1.size : Int)))) then (bif ((decide (((0 : Int) ≤ s.2.2))) && (decide ((s.2.2 < (s.1.size : Int))))) then (some (.inl (s.1, ((IntKind.wrap .u64 ((IntKind.wrap .u64 ((IntKind.wrap .u64 ((10 : Int) * s.2.1)) + (IntKind.wrap .u64 (bt s.1 (Int.toNat s.2.2))))) - (48 : Int))), (IntKind.wrap .i64 (s.2.2 + (1 : Int))))))) else none) else (some (.inr s.2.1)))
noncomputable def bursarref02_Get.l10 : (ByteArray × (Int × Int)) → Option (Int) := rounds bursarref02_Get.t10
noncomputable def bursarref02_Get.f (a : ByteArray) : Option (Int × Int) := (bif (decide (((a.size : Int) < (1 : Int)))) then (some ((0 : Int), (1 : Int))) else (bif (decide (((a.size : Int) > (19 : Int)))) then (some ((0 : Int), (1 : Int))) else (((bursarref02_All.f a)).bind fun x1 => (bif (!x1) then (some ((0 : Int), (4 : Int))) else (((bursarref02_Get.l10 (a, ((0 : Int), (0 : Int))))).bind fun x2 => (some (x2, (0 : Int))))))))
end Go.Proofs.YtpoiijkodpnobaaGreatDoor
end
section
set_option linter.unusedVariables false
set_option linter.unusedSimpArgs false
namespace Go.Proofs.YtpoiijkodpnobaaGreatDoor
open Go Go.Fw
def padD : Nat → Nat → List UInt8
  | 0, _ => []
  | k + 1, n => padD k (n / 10) ++ [dgt (n % 10)]
theorem padD_len : ∀ k n, (padD k n).length = k
  | 0, _ => rfl
  | k + 1, n => by simp [padD, padD_len k]
theorem padD_zero : ∀ k, padD k 0 = List.replicate k 48
  | 0 => rfl
  | k + 1 => by
    rw [padD, show 0 / 10 = 0 by rfl, padD_zero k, List.replicate_succ']
    rfl
theorem padD_decP : ∀ (k m n : Nat), n < 10 ^ k → k ≤ m → padD k n = List.replicate (k - (decP m n).length) 48 ++ decP m n
  | 0, m, n, h, _ => by
    have : n = 0 := by simpa using h
    subst this
    cases m <;> simp [padD, decP]
  | k + 1, 0, n, _, h => by omega
  | k + 1, m + 1, n, h, hk => by
    unfold decP
    split
    · rename_i h0; subst h0
      rw [padD_zero]; simp
    · rw [padD, padD_decP k m (n / 10) (by have : 10 ^ (k + 1) = 10 ^ k * 10 := Nat.pow_succ ..; omega) (by omega)]
      simp
theorem repeat_one (c : UInt8) : ∀ n, Lib.repeatL [c] n = List.replicate n c
  | 0 => rfl
  | n + 1 => by rw [Lib.repeatL, repeat_one c n]; rfl
theorem repeat_is {n : Nat} (h : n ≤ 1000) : strings_Repeat.f (bs [48], (n : Int)) = some (bs (List.replicate n 48)) := by
  show repeatT _ _ = _
  unfold repeatT
  have h1 : (0 : Int) ≤ (n : Int) := by omega
  have h2 : (n : Int) ≤ 140737488355328 := by omega
  have h3 : (bs [48]).size * ((n : Int)).toNat ≤ 140737488355328 := by rw [bs_size, Int.toNat_natCast]; simp; omega
  rw [decide_eq_true h1, decide_eq_true h2, decide_eq_true h3, Int.toNat_natCast, bs_list, repeat_one]
  rfl
theorem PutW_is {w n : Nat} (hw : 1 ≤ w ∧ w ≤ 19) (h : n < 10 ^ w) : digit_Put.f ((n : Int), (w : Int)) = some (bs (padD w n), 0) := by
  have h19 : n < 10 ^ 19 := Nat.lt_of_lt_of_le h (Nat.pow_le_pow_right (by omega) hw.2)
  have hf : strconv_FormatUint.f ((n : Int), 10) = some (bs (decF 20 n)) := fmtU_is (by omega)
  have hd : decF 20 n = decP 19 (n / 10) ++ [dgt (n % 10)] := decF_decP 19 n (by omega)
  obtain ⟨v, rfl⟩ : ∃ v, w = v + 1 := ⟨w - 1, by omega⟩
  have hq : n / 10 < 10 ^ v := by have : 10 ^ (v + 1) = 10 ^ v * 10 := Nat.pow_succ ..; omega
  have hp : padD (v + 1) n = List.replicate (v - (decP 19 (n / 10)).length) 48 ++ decP 19 (n / 10) ++ [dgt (n % 10)] := by
    rw [padD, padD_decP v 19 (n / 10) hq (by omega)]
  have hlen : (decP 19 (n / 10)).length ≤ v := by
    have := congrArg List.length (padD_decP v 19 (n / 10) hq (by omega))
    rw [padD_len] at this
    simp at this
    omega
  rw [hd] at hf
  obtain ⟨l, hl⟩ : ∃ l, decP 19 (n / 10) = l := ⟨_, rfl⟩
  rw [hl] at hf hp hlen
  unfold digit_Put.f
  rw [hf, Option.bind_some, hp]
  have g1 : ¬ ((v + 1 : Nat) : Int) < 1 := by omega
  have g2 : ¬ ((v + 1 : Nat) : Int) > 19 := by omega
  have g3 : ¬ ((l ++ [dgt (n % 10)]).length : Int) > ((v + 1 : Nat) : Int) := by simp; omega
  simp only [bs_size, g1, g2, g3, decide_false, cond_false]
  have e1 : IntKind.wrap .i64 (((v + 1 : Nat) : Int) - ((l ++ [dgt (n % 10)]).length : Int)) = ((v - l.length : Nat) : Int) := by
    rw [wrap_i64 (by simp; omega) (by simp; omega)]; simp; omega
  rw [e1, repeat_is (by omega), Option.bind_some]
  simp only [bs_size, bs_append]
  rw [Nat.ble_eq_true_of_le (by simp; omega)]
  simp
def numS (a : Nat) (c : UInt8) : Nat := a * 10 + (c.toNat - 48)
def numL (acc : Nat) (l : List UInt8) : Nat := l.foldl numS acc
theorem numL_cons (acc : Nat) (c : UInt8) (r : List UInt8) : numL acc (c :: r) = numL (acc * 10 + (c.toNat - 48)) r := by unfold numL; rw [List.foldl_cons]; rfl
theorem numL_nil (acc : Nat) : numL acc [] = acc := rfl
def digL (l : List UInt8) : Prop := ∀ c, c ∈ l → 48 ≤ c.toNat ∧ c.toNat ≤ 57
theorem digL_cons {c : UInt8} {l : List UInt8} (h : digL (c :: l)) : (48 ≤ c.toNat ∧ c.toNat ≤ 57) ∧ digL l := ⟨h c (List.mem_cons_self ..), fun x hx => h x (List.mem_cons_of_mem _ hx)⟩
theorem numL_lt : ∀ (l : List UInt8) (acc j : Nat), digL l → acc < 10 ^ j → numL acc l < 10 ^ (j + l.length)
  | [], acc, j, _, h => by rw [numL_nil]; exact h
  | c :: l, acc, j, hd, h => by
    obtain ⟨h1, h2⟩ := digL_cons hd
    have := numL_lt l (acc * 10 + (c.toNat - 48)) (j + 1) h2 (by have : 10 ^ (j + 1) = 10 ^ j * 10 := Nat.pow_succ ..; omega)
    rw [show j + (c :: l).length = j + 1 + l.length by simp; omega, numL_cons]
    exact this
theorem p18 {acc j : Nat} (h : acc < 10 ^ j) (hj : j ≤ 18) : acc < 1000000000000000000 := by
  have h1 : 10 ^ j ≤ 10 ^ 18 := Nat.pow_le_pow_right (by omega) hj
  have h2 : (10 : Nat) ^ 18 = 1000000000000000000 := by decide
  omega
theorem parseM_num {M : Nat} (hM : 9999999999999999999 ≤ M) : ∀ (l : List UInt8) (acc j : Nat), digL l → acc < 10 ^ j → j + l.length ≤ 19 → Lib.parseUintM M acc l = .ok (numL acc l)
  | [], acc, j, _, _, _ => rfl
  | c :: l, acc, j, hd, h, hj => by
    obtain ⟨h1, h2⟩ := digL_cons hd
    have h3 := p18 h (by simp only [List.length_cons] at hj; omega)
    unfold Lib.parseUintM
    rw [if_pos h1, if_neg (by omega), if_neg (by omega), numL_cons]
    exact parseM_num hM l _ (j + 1) h2 (by have : 10 ^ (j + 1) = 10 ^ j * 10 := Nat.pow_succ ..; omega) (by simp only [List.length_cons] at hj; omega)
theorem m64 : 9999999999999999999 ≤ 2 ^ 64 - 1 := by decide
theorem digitsB_list (l : List UInt8) : digitsB (bs l) = true ↔ digL l := by
  unfold digitsB digL
  rw [List.all_eq_true]
  constructor
  · intro h c hc
    obtain ⟨i, hi, rfl⟩ := List.getElem_of_mem hc
    have := h i (List.mem_range.2 (by rw [bs_size]; exact hi))
    unfold digC at this
    rw [bt_bs, getD_at hi] at this
    simp only [Bool.and_eq_true, decide_eq_true_eq] at this
    omega
  · intro h i hi
    rw [List.mem_range, bs_size] at hi
    have := h _ (List.getElem_mem hi)
    unfold digC
    rw [bt_bs, getD_at hi]
    simp only [Bool.and_eq_true, decide_eq_true_eq]
    omega
def geta (acc : Int) (c : UInt8) : Int := IntKind.wrap .u64 ((IntKind.wrap .u64 ((IntKind.wrap .u64 (10 * acc)) + (IntKind.wrap .u64 (c.toNat : Int)))) - 48)
theorem get_loop (all : List UInt8) (hall : all.length ≤ 1000) : ∀ (l : List UInt8) (i : Nat) (acc : Int), all.drop i = l → i ≤ all.length →
    bursarref02_Get.l10 (bs all, (acc, (i : Int))) = some (l.foldl geta acc)
  | [], i, acc, h, hi => by
    have hl := congrArg List.length h
    simp only [List.length_drop, List.length_nil] at hl
    unfold bursarref02_Get.l10
    rw [rounds_end (r := acc)]
    · rfl
    · unfold bursarref02_Get.t10
      have h1 : ¬ (i : Int) < ((bs all).size : Int) := by rw [bs_size]; omega
      simp only [h1, decide_false, cond_false]
  | c :: r, i, acc, h, hi => by
    obtain ⟨g1, g2, g3⟩ := drop_cons 0 h
    have ih := get_loop all hall r (i + 1) (geta acc c) g2 (by omega)
    unfold bursarref02_Get.l10 at ih ⊢
    rw [rounds_next (s' := (bs all, (geta acc c, ((i + 1 : Nat) : Int))))]
    · rw [ih]; rfl
    · unfold bursarref02_Get.t10
      have h1 : (i : Int) < ((bs all).size : Int) := by rw [bs_size]; omega
      have h2 : (0 : Int) ≤ (i : Int) := by omega
      have e3 : IntKind.wrap .i64 ((i : Int) + 1) = ((i + 1 : Nat) : Int) := wrap_up (by omega)
      have hb : bt (bs all) (Int.toNat (i : Int)) = (c.toNat : Int) := by rw [bt_bs, Int.toNat_natCast, g1]
      simp only [h1, h2, e3, hb, decide_true, Bool.and_self, cond_true]
      rfl
theorem geta_num : ∀ (l : List UInt8) (acc j : Nat), digL l → acc < 10 ^ j → j + l.length ≤ 19 → l.foldl geta (acc : Int) = (numL acc l : Int)
  | [], acc, j, _, _, _ => rfl
  | c :: l, acc, j, hd, h, hj => by
    obtain ⟨h1, h2⟩ := digL_cons hd
    have h3 := p18 h (by simp only [List.length_cons] at hj; omega)
    have e : geta (acc : Int) c = ((acc * 10 + (c.toNat - 48) : Nat) : Int) := by
      unfold geta
      simp only [wrap_u64]
      omega
    rw [List.foldl_cons, e, numL_cons]
    exact geta_num l _ (j + 1) h2 (by have : 10 ^ (j + 1) = 10 ^ j * 10 := Nat.pow_succ ..; omega) (by simp only [List.length_cons] at hj; omega)
theorem RefGet_is {l : List UInt8} (hl : 1 ≤ l.length ∧ l.length ≤ 19) (hd : digL l) : bursarref02_Get.f (bs l) = some ((numL 0 l : Int), 0) := by
  unfold bursarref02_Get.f
  have h1 : ¬ ((bs l).size : Int) < 1 := by rw [bs_size]; omega
  have h2 : ¬ ((bs l).size : Int) > 19 := by rw [bs_size]; omega
  have hg := get_loop l (by omega) l 0 0 rfl (by omega)
  have hg' : bursarref02_Get.l10 (bs l, ((0 : Int), (0 : Int))) = some (l.foldl geta 0) := hg
  have hn := geta_num l 0 0 hd (by simp) (by omega)
  have hn : l.foldl geta 0 = (numL 0 l : Int) := hn
  simp only [h1, h2, decide_false, cond_false, ref_All_is (bs l) (by rw [bs_size]; omega), (digitsB_list l).2 hd, Option.bind_some, Bool.not_true, hg', hn]
end Go.Proofs.YtpoiijkodpnobaaGreatDoor
end
section
namespace Go.Proofs
open Go.Shelf
def Tryz.laysM171_ren : Go.Shelf.Ren := ⟨fun | 171 => 52 | 243 => 90 | 246 => 124 | 283 => 157 | 284 => 158 | 285 => 159 | 286 => 160 | 129 => 180 | 317 => 179 | 318 => 181 | 319 => 182 | 320 => 183 | 337 => 189 | 338 => 190 | n => n, fun | 3 => 3 | 9 => 9 | 2 => 2 | 4 => 4 | 171 => 211 | 0 => 0 | 53 => 95 | 37 => 132 | 5 => 5 | 173 => 214 | 212 => 237 | 51 => 200 | 20 => 20 | 213 => 238 | 46 => 163 | 232 => 257 | 233 => 258 | n => n, fun | 17 => 4 | 18 => 6 | 19 => 7 | n => n⟩
theorem Tryz.laysM171 : Go.Proofs.LaysM.n171 Tryz.prog Tryz.laysM171_ren := {
  mixed := by kernel_rfl
  f129 := Tryz.func180.trans (congrArg some (by kernel_rfl))
  f171 := Tryz.func52.trans (congrArg some (by kernel_rfl))
  f243 := Tryz.func90.trans (congrArg some (by kernel_rfl))
  f246 := Tryz.func124.trans (congrArg some (by kernel_rfl))
  f283 := Tryz.func157.trans (congrArg some (by kernel_rfl))
  f284 := Tryz.func158.trans (congrArg some (by kernel_rfl))
  f285 := Tryz.func159.trans (congrArg some (by kernel_rfl))
  f286 := Tryz.func160.trans (congrArg some (by kernel_rfl))
  f317 := Tryz.func179.trans (congrArg some (by kernel_rfl))
  f318 := Tryz.func181.trans (congrArg some (by kernel_rfl))
  f319 := Tryz.func182.trans (congrArg some (by kernel_rfl))
  f320 := Tryz.func183.trans (congrArg some (by kernel_rfl))
  f337 := Tryz.func189.trans (congrArg some (by kernel_rfl))
  f338 := Tryz.func190.trans (congrArg some (by kernel_rfl))
  t0 := Tryz.underlying0
  a0 := Tryz.isAgg0
  z0 := Tryz.sizeOf0
  v0 := Tryz.zeroValue0
  t2 := Tryz.underlying2
  a2 := Tryz.isAgg2
  z2 := Tryz.sizeOf2
  v2 := Tryz.zeroValue2
  t3 := Tryz.underlying3
  a3 := Tryz.isAgg3
  z3 := Tryz.sizeOf3
  v3 := Tryz.zeroValue3
  t4 := Tryz.underlying4
  a4 := Tryz.isAgg4
  z4 := Tryz.sizeOf4
  v4 := Tryz.zeroValue4
  t5 := Tryz.underlying5
  a5 := Tryz.isAgg5
  z5 := Tryz.sizeOf5
  v5 := Tryz.zeroValue5
  t9 := Tryz.underlying9
  a9 := Tryz.isAgg9
  z9 := Tryz.sizeOf9
  v9 := Tryz.zeroValue9
  t20 := Tryz.underlying20
  a20 := Tryz.isAgg20
  z20 := Tryz.sizeOf20
  v20 := Tryz.zeroValue20
  t37 := Tryz.underlying132
  a37 := Tryz.isAgg132
  z37 := Tryz.sizeOf132
  v37 := Tryz.zeroValue132
  t46 := Tryz.underlying163
  a46 := Tryz.isAgg163
  z46 := Tryz.sizeOf163
  v46 := Tryz.zeroValue163
  t51 := Tryz.underlying200
  a51 := Tryz.isAgg200
  z51 := Tryz.sizeOf200
  v51 := Tryz.zeroValue200
  t53 := Tryz.underlying95
  a53 := Tryz.isAgg95
  z53 := Tryz.sizeOf95
  v53 := Tryz.zeroValue95
  t171 := Tryz.underlying211
  a171 := Tryz.isAgg211
  z171 := Tryz.sizeOf211
  v171 := Tryz.zeroValue211
  t173 := Tryz.underlying214
  a173 := Tryz.isAgg214
  z173 := Tryz.sizeOf214
  v173 := Tryz.zeroValue214
  t212 := Tryz.underlying237
  a212 := Tryz.isAgg237
  z212 := Tryz.sizeOf237
  v212 := Tryz.zeroValue237
  t213 := Tryz.underlying238
  a213 := Tryz.isAgg238
  z213 := Tryz.sizeOf238
  t232 := Tryz.underlying257
  a232 := Tryz.isAgg257
  z232 := Tryz.sizeOf257
  v232 := Tryz.zeroValue257
  t233 := Tryz.underlying258
  a233 := Tryz.isAgg258
  z233 := Tryz.sizeOf258
  v233 := Tryz.zeroValue258
  g17 := by kernel_rfl
  g18 := by kernel_rfl
  g19 := by kernel_rfl
  i0 := by kernel_rfl
  i2 := by kernel_rfl
  i3 := by kernel_rfl
  i4 := by kernel_rfl
  i5 := by kernel_rfl
  i9 := by kernel_rfl
  i20 := by kernel_rfl
  i37 := by kernel_rfl
  i46 := by kernel_rfl
  i51 := by kernel_rfl
  i53 := by kernel_rfl
  i171 := by kernel_rfl
  i173 := by kernel_rfl
  i212 := by kernel_rfl
  i232 := by kernel_rfl
  i233 := by kernel_rfl
  m17 := by kernel_rfl
  m18 := by kernel_rfl
  m19 := by kernel_rfl }
end Go.Proofs
end
section
set_option linter.unusedVariables false
namespace Go.Proofs.YtpoiijkodpnobaaGreatDoor
open Go Go.Fw Go.RowKit Go.Shelf
def itoaI (n : Int) : List UInt8 := bif decide (n < 0) then 45 :: decF 20 n.natAbs else decF 20 n.toNat
abbrev strconv_Itoa.As : Shs := .cons (.x (.i .i64)) .nil
abbrev strconv_Itoa.m : Back := [(false, .s)]
abbrev strconv_Itoa.f (a : Int) : Option ByteArray := bif decide (-9223372036854775808 ≤ a) && decide (a ≤ 9223372036854775807) then some (bs (itoaI a)) else none
noncomputable abbrev strconv_Itoa.row : Row := fnRow 52 strconv_Itoa.As strconv_Itoa.m strconv_Itoa.f
theorem itoaI_is {n : Int} (h0 : -9223372036854775808 ≤ n) (h1 : n ≤ 9223372036854775807) : itoaI n = Lib.itoa n := by
  unfold itoaI Lib.itoa
  rw [decF_is 19 _ (by omega)]
  by_cases h : n < 0
  · simp [h]
  · simp only [h, decide_false, cond_false, if_false]
    exact decF_is 19 _ (by omega)
theorem strconv_Itoa.row_ok : RowOK P G0 strconv_Itoa.row := by
  have key : ∀ (ds : List D) (a : Int) (q : ByteArray), decArgs strconv_Itoa.As ds = some a → strconv_Itoa.f a = some q → Fw.Enters P 52 ∧ PCall P G0 52 ds (.s q) := by
    intro ds a q ha hq
    refine ⟨ent_of Tryz.func52 (by kernel_rfl) (by kernel_rfl), ?_⟩
    have hds := (decArgs_argD ha).symm
    refine PCall.coe (ds' := argD strconv_Itoa.As a) ?_ (by rw [← hds]; exact coeA_len) fun w I f hf => by rw [← hds]; exact coeA_rel hf
    refine pcall_below fun w I K vs hg hsz hr => ?_
    have h0 := hr 0 (.i .i64 a) rfl
    have hvs : vs = #[.int .i64 a] := by
      have hs : vs.size = 1 := hsz
      rw [Array.getD_eq_getD_getElem?, Array.getElem?_eq_getElem (by omega)] at h0
      simp only [Option.getD_some] at h0
      refine Array.ext (by simpa using hs) fun i hi hi' => ?_
      match i, hi with
      | 0, _ => cases h : vs[0] <;> rw [h] at h0 <;> cases h0; rfl
      | i + 1, hi => omega
    subst hvs
    unfold strconv_Itoa.f at hq
    obtain ⟨hb, hq⟩ := cond_some hq
    simp only [Bool.and_eq_true, decide_eq_true_eq] at hb
    injection hq with hq
    subst hq
    refine (Any.strconv_Itoa Tryz.laysM171 a hb.1 hb.2 w (tab_of_glob hg (g := 4) (by kernel_rfl) rfl)).mono ?_
    rintro e w' ⟨rfl, k, os, rfl⟩
    refine ⟨_, rfl, grow_below w k os, ?_⟩
    rw [itoaI_is hb.1 hb.2]
    exact RelD.s _
  exact fun ds a q => key ds a q
end Go.Proofs.YtpoiijkodpnobaaGreatDoor
end
section
set_option linter.unusedVariables false
set_option maxRecDepth 100000
namespace Go.Proofs.YtpoiijkodpnobaaGreatDoor
open Go Go.Fw
abbrev trade_or.As : Shs := (.cons (.x .s) (.cons (.x (.i .i64)) .nil))
abbrev trade_or.m : Back := [(false, .s)]
noncomputable abbrev trade_or.H : HK := hk P G0 E0 J0 [strings_Repeat.row] noLoops 4
theorem trade_or.rows : TabOK P G0 (tabF [strings_Repeat.row]) := rows_ok (ws := [strings_Repeat.row]) ⟨strings_Repeat.row_ok, trivial⟩
theorem trade_or.hok : HKOK P trade_or.H := hk_ok e0_ok j0_ok trade_or.rows (fun g n => noLoops_ok g n) 4
noncomputable def trade_or.f (a : (ByteArray × Int)) : Option ByteArray := (bif ((ByteArray.toList a.1) == []) then (((strings_Repeat.f ((bs [48]), a.2))).bind fun x2 => (some x2)) else (some a.1))
theorem trade_or.ok : ∀ a : Vals trade_or.As.tys, fnK P trade_or.H (lp []) 38 trade_or.As trade_or.m a some = trade_or.f a := fun a => by kernel_rfl
noncomputable abbrev trade_or.row : Row := fnRow 38 trade_or.As trade_or.m trade_or.f
theorem trade_or.row_ok : RowOK P G0 trade_or.row := row_told trade_or.hok (lp_of (l := []) trivial) (fun _ => rfl) trade_or.ok
abbrev trade_Text.As : Shs := (.cons (.x T_api_Post) .nil)
abbrev trade_Text.m : Back := [(false, .s), (false, (.i .i64))]
noncomputable abbrev trade_Text.H : HK := hk P G0 E0 J0 [trade_May.row, trade_or.row, digit_Put.row, strconv_Itoa.row] noLoops 4
theorem trade_Text.rows : TabOK P G0 (tabF [trade_May.row, trade_or.row, digit_Put.row, strconv_Itoa.row]) := rows_ok (ws := [trade_May.row, trade_or.row, digit_Put.row, strconv_Itoa.row]) ⟨trade_May.row_ok, ⟨trade_or.row_ok, ⟨digit_Put.row_ok, ⟨strconv_Itoa.row_ok, trivial⟩⟩⟩⟩
theorem trade_Text.hok : HKOK P trade_Text.H := hk_ok e0_ok j0_ok trade_Text.rows (fun g n => noLoops_ok g n) 4
noncomputable def trade_Text.f (a : (Int × (Int × (ByteArray × (ByteArray × (ByteArray × Int)))))) : Option (ByteArray × Int) := (((trade_May.f a)).bind fun x1 => (bif (!x1) then (some ((bs []), (1 : Int))) else (((digit_Put.f ((IntKind.wrap .u64 a.2.1), (10 : Int)))).bind fun x2 => (((digit_Put.f ((IntKind.wrap .u64 a.2.2.2.2.2), (14 : Int)))).bind fun x3 => (((strconv_Itoa.f a.1)).bind fun x4 => (bif (Nat.ble (x4.size + x2.1.size) 9223372036854775807) then (((trade_or.f (a.2.2.1, (16 : Int)))).bind fun x5 => (bif (Nat.ble ((x4 ++ x2.1).size + x5.size) 9223372036854775807) then (((trade_or.f (a.2.2.2.1, (6 : Int)))).bind fun x6 => (bif (Nat.ble (((x4 ++ x2.1) ++ x5).size + x6.size) 9223372036854775807) then (((trade_or.f (a.2.2.2.2.1, (12 : Int)))).bind fun x7 => (bif (Nat.ble ((((x4 ++ x2.1) ++ x5) ++ x6).size + x7.size) 9223372036854775807) then (bif (Nat.ble (((((x4 ++ x2.1) ++ x5) ++ x6) ++ x7).size + x3.1.size) 9223372036854775807) then (some ((((((x4 ++ x2.1) ++ x5) ++ x6) ++ x7) ++ x3.1), (0 : Int))) else none) else none)) else none)) else none)) else none))))))
theorem trade_Text.ok : ∀ a : Vals trade_Text.As.tys, fnK P trade_Text.H (lp []) 20 trade_Text.As trade_Text.m a some = trade_Text.f a := fun a => by kernel_rfl
noncomputable abbrev trade_Text.row : Row := fnRow 20 trade_Text.As trade_Text.m trade_Text.f
theorem trade_Text.row_ok : RowOK P G0 trade_Text.row := row_told trade_Text.hok (lp_of (l := []) trivial) (fun _ => rfl) trade_Text.ok
end Go.Proofs.YtpoiijkodpnobaaGreatDoor
end
section
set_option linter.unusedVariables false
set_option linter.unusedSimpArgs false
namespace Go.Proofs.YtpoiijkodpnobaaGreatDoor
open Go Go.Fw
def orL (s : ByteArray) (w : Nat) : List UInt8 := bif decide (s = bs []) then List.replicate w 48 else s.data.toList
theorem orL_len {s : ByteArray} {w : Nat} (hs : s.size ≤ 20) (hw : w ≤ 20) : (orL s w).length ≤ 20 := by
  unfold orL
  by_cases h : s = bs []
  · rw [decide_eq_true h, cond_true, List.length_replicate]; exact hw
  · rw [decide_eq_false h, cond_false]; exact hs
theorem or_is {s : ByteArray} {w : Nat} (hw : w ≤ 1000) : trade_or.f (s, (w : Int)) = some (bs (orL s w)) := by
  unfold trade_or.f orL
  simp only [texts_nil]
  by_cases h : s = bs []
  · rw [decide_eq_true h, cond_true, cond_true, repeat_is hw]; rfl
  · rw [decide_eq_false h, cond_false, cond_false, ← eq_bs]
def txtP (p : Po) : List UInt8 := [dgt p.1.toNat] ++ padD 10 p.2.1.toNat ++ orL p.2.2.1 16 ++ orL p.2.2.2.1 6 ++ orL p.2.2.2.2.1 12 ++ padD 14 p.2.2.2.2.2.toNat
theorem ble_small {n : Nat} (h : n ≤ 1000) : Nat.ble n 9223372036854775807 = true := Nat.ble_eq_true_of_le (by omega)
theorem itoa_kind {k : Int} (hk : k = 1 ∨ k = 2 ∨ k = 3 ∨ k = 4 ∨ k = 5 ∨ k = 6) : strconv_Itoa.f k = some (bs [dgt k.toNat]) := by
  rcases hk with rfl | rfl | rfl | rfl | rfl | rfl <;> decide +kernel
theorem tradeText_is {p : Po} (hs : smallP p) : trade_Text.f p = some (bif mayP p then (bs (txtP p), 0) else (bs [], 1)) := by
  have hmay := tradeMay_is (p := p) (by have := hs.2.2; omega)
  unfold trade_Text.f
  rw [hmay, Option.bind_some]
  cases hm : mayP p
  · rfl
  obtain ⟨⟨b0, b1⟩, n0, n1⟩ := mayP_num hm
  have hk := mayP_kind hm
  obtain ⟨k, b, x, y, z, n⟩ := p
  obtain ⟨s1, s2, s3⟩ := hs
  have s1 : x.size ≤ 20 := s1
  have s2 : y.size ≤ 20 := s2
  have s3 : z.size ≤ 20 := s3
  have b0 : 0 ≤ b := b0
  have b1 : b ≤ 2147483647 := b1
  have n0 : 1 ≤ n := n0
  have n1 : n ≤ 9999999999999 := n1
  have hk : k = 1 ∨ k = 2 ∨ k = 3 ∨ k = 4 ∨ k = 5 ∨ k = 6 := hk
  have e1 : IntKind.wrap .u64 b = ((b.toNat : Nat) : Int) := by rw [wrap_u64]; omega
  have e2 : IntKind.wrap .u64 n = ((n.toNat : Nat) : Int) := by rw [wrap_u64]; omega
  have t10 : (10 : Nat) ^ 10 = 10000000000 := by decide
  have t14 : (10 : Nat) ^ 14 = 100000000000000 := by decide
  have p1 : digit_Put.f (((b.toNat : Nat) : Int), (10 : Int)) = some (bs (padD 10 b.toNat), 0) := PutW_is (w := 10) (n := b.toNat) (by omega) (by omega)
  have p2 : digit_Put.f (((n.toNat : Nat) : Int), (14 : Int)) = some (bs (padD 14 n.toNat), 0) := PutW_is (w := 14) (n := n.toNat) (by omega) (by omega)
  have o1 : trade_or.f (x, (16 : Int)) = some (bs (orL x 16)) := or_is (s := x) (w := 16) (by omega)
  have o2 : trade_or.f (y, (6 : Int)) = some (bs (orL y 6)) := or_is (s := y) (w := 6) (by omega)
  have o3 : trade_or.f (z, (12 : Int)) = some (bs (orL z 12)) := or_is (s := z) (w := 12) (by omega)
  have l1 := orL_len (w := 16) s1 (by omega)
  have l2 := orL_len (w := 6) s2 (by omega)
  have l3 := orL_len (w := 12) s3 (by omega)
  have q1 := padD_len 10 b.toNat
  have q2 := padD_len 14 n.toNat
  unfold txtP
  simp only [Bool.not_true, cond_false, cond_true, e1, e2, p1, p2, Option.bind_some, itoa_kind hk, o1, o2, o3, bs_append, bs_size, List.length_append, List.length_cons, List.length_nil]
  rw [ble_small (by omega), cond_true, ble_small (by omega), cond_true, ble_small (by omega), cond_true, ble_small (by omega), cond_true, ble_small (by omega), cond_true]
end Go.Proofs.YtpoiijkodpnobaaGreatDoor
end
section
set_option linter.unusedVariables false
set_option linter.unusedSimpArgs false
namespace Go.Proofs.YtpoiijkodpnobaaGreatDoor
open Go Go.Fw
def n48 (c : UInt8) : Bool := c == 48
def ownL (l : List UInt8) : List UInt8 := bif l.all n48 then [] else l
def part (l : List UInt8) (i j : Nat) : List UInt8 := (l.take j).drop i
end Go.Proofs.YtpoiijkodpnobaaGreatDoor
end
section
set_option linter.unusedVariables false
set_option linter.unusedSimpArgs false
namespace Go.Proofs.YtpoiijkodpnobaaGreatDoor
open Go Go.Fw
theorem card_size {s : ByteArray} (h : cardB s = true) : s.size = 16 := by
  unfold cardB at h
  simp only [Bool.and_eq_true, beq_iff_eq] at h
  exact h.1
theorem acq_size {s : ByteArray} (h : acqB s = true) : s.size = 6 := by
  unfold acqB at h
  simp only [Bool.and_eq_true, beq_iff_eq] at h
  exact h.1
theorem ref_size {s : ByteArray} (h : refB s = true) : s.size = 12 := by
  unfold refB at h
  simp only [Bool.and_eq_true, beq_iff_eq] at h
  exact h.1
theorem orL_nil (w : Nat) : orL (bs []) w = List.replicate w 48 := by unfold orL; rw [decide_eq_true rfl]; rfl
theorem mayP_small {p : Po} (h : mayP p = true) : smallP p := by
  obtain ⟨a1, a2, a3⟩ := mayP_parts h
  rcases mayP_kind h with hk | hk | hk | hk | hk | hk
  · obtain ⟨h1, h2, h3⟩ := a1 hk
    exact ⟨by have := card_size h1; omega, by rw [h2]; decide, by rw [h3]; decide⟩
  · obtain ⟨h1, h2, h3⟩ := a3 (by omega)
    exact ⟨by have := card_size h1; omega, by have := acq_size h2; omega, by have := ref_size h3; omega⟩
  · obtain ⟨h1, h2, h3⟩ := a3 (by omega)
    exact ⟨by have := card_size h1; omega, by have := acq_size h2; omega, by have := ref_size h3; omega⟩
  · obtain ⟨h1, h2, h3⟩ := a3 (by omega)
    exact ⟨by have := card_size h1; omega, by have := acq_size h2; omega, by have := ref_size h3; omega⟩
  · obtain ⟨h1, h2, h3⟩ := a2 (.inl hk)
    exact ⟨by rw [h1]; decide, by have := acq_size h2; omega, by rw [h3]; decide⟩
  · obtain ⟨h1, h2, h3⟩ := a2 (.inr hk)
    exact ⟨by rw [h1]; decide, by have := acq_size h2; omega, by rw [h3]; decide⟩
structure Cut (p : Po) (l : List UInt8) : Prop where
  len : l.length = 59
  k0 : l.getD 0 0 = dgt p.1.toNat
  k : part l 0 1 = [dgt p.1.toNat]
  b : part l 1 11 = padD 10 p.2.1.toNat
  x : part l 11 27 = orL p.2.2.1 16
  y : part l 27 33 = orL p.2.2.2.1 6
  z : part l 33 45 = orL p.2.2.2.2.1 12
  n : part l 45 59 = padD 14 p.2.2.2.2.2.toNat
theorem orL_16 {s : ByteArray} {w : Nat} (h : s = bs [] ∨ s.size = w) : (orL s w).length = w := by
  rcases h with rfl | h
  · rw [orL_nil]; simp
  · unfold orL
    by_cases hs : s = bs []
    · rw [decide_eq_true hs]; simp
    · rw [decide_eq_false hs]; exact h
end Go.Proofs.YtpoiijkodpnobaaGreatDoor
end
section
namespace Go.Proofs
open Go.Shelf
def Tryz.lays157_ren : Go.Shelf.Ren := ⟨fun | 157 => 191 | 229 => 197 | 199 => 198 | 261 => 208 | 311 => 213 | 312 => 214 | n => n, fun | 9 => 9 | 31 => 123 | 3 => 3 | 5 => 5 | 4 => 4 | 119 => 228 | 0 => 0 | 40 => 188 | 152 => 260 | 21 => 21 | 154 => 262 | 51 => 200 | 141 => 264 | 196 => 268 | 193 => 265 | 198 => 271 | 49 => 269 | 194 => 266 | 201 => 274 | 226 => 276 | 46 => 163 | 227 => 277 | n => n, fun | 0 => 8 | 6 => 9 | n => n⟩
theorem Tryz.lays157 : Go.Proofs.Lays.n157 Tryz.prog Tryz.lays157_ren := {
  mixed := by kernel_rfl
  f157 := Tryz.func191.trans (congrArg some (by kernel_rfl))
  f199 := Tryz.func198.trans (congrArg some (by kernel_rfl))
  f229 := Tryz.func197.trans (congrArg some (by kernel_rfl))
  f261 := Tryz.func208.trans (congrArg some (by kernel_rfl))
  f311 := Tryz.func213.trans (congrArg some (by kernel_rfl))
  f312 := Tryz.func214.trans (congrArg some (by kernel_rfl))
  t0 := Tryz.underlying0
  a0 := Tryz.isAgg0
  z0 := Tryz.sizeOf0
  v0 := Tryz.zeroValue0
  t3 := Tryz.underlying3
  a3 := Tryz.isAgg3
  z3 := Tryz.sizeOf3
  v3 := Tryz.zeroValue3
  t4 := Tryz.underlying4
  a4 := Tryz.isAgg4
  z4 := Tryz.sizeOf4
  v4 := Tryz.zeroValue4
  t5 := Tryz.underlying5
  a5 := Tryz.isAgg5
  z5 := Tryz.sizeOf5
  v5 := Tryz.zeroValue5
  t9 := Tryz.underlying9
  a9 := Tryz.isAgg9
  z9 := Tryz.sizeOf9
  v9 := Tryz.zeroValue9
  t21 := Tryz.underlying21
  a21 := Tryz.isAgg21
  z21 := Tryz.sizeOf21
  v21 := Tryz.zeroValue21
  t31 := Tryz.underlying123
  a31 := Tryz.isAgg123
  z31 := Tryz.sizeOf123
  v31 := Tryz.zeroValue123
  t40 := Tryz.underlying188
  a40 := Tryz.isAgg188
  z40 := Tryz.sizeOf188
  v40 := Tryz.zeroValue188
  t46 := Tryz.underlying163
  a46 := Tryz.isAgg163
  z46 := Tryz.sizeOf163
  v46 := Tryz.zeroValue163
  t49 := Tryz.underlying269
  a49 := Tryz.isAgg269
  z49 := Tryz.sizeOf269
  v49 := Tryz.zeroValue269
  t51 := Tryz.underlying200
  a51 := Tryz.isAgg200
  z51 := Tryz.sizeOf200
  v51 := Tryz.zeroValue200
  t119 := Tryz.underlying228
  a119 := Tryz.isAgg228
  z119 := Tryz.sizeOf228
  t141 := Tryz.underlying264
  a141 := Tryz.isAgg264
  z141 := Tryz.sizeOf264
  v141 := Tryz.zeroValue264
  t152 := Tryz.underlying260
  a152 := Tryz.isAgg260
  z152 := Tryz.sizeOf260
  v152 := Tryz.zeroValue260
  t154 := Tryz.underlying262
  a154 := Tryz.isAgg262
  z154 := Tryz.sizeOf262
  v154 := Tryz.zeroValue262
  t193 := Tryz.underlying265
  a193 := Tryz.isAgg265
  z193 := Tryz.sizeOf265
  v193 := Tryz.zeroValue265
  t194 := Tryz.underlying266
  a194 := Tryz.isAgg266
  z194 := Tryz.sizeOf266
  v194 := Tryz.zeroValue266
  t196 := Tryz.underlying268
  a196 := Tryz.isAgg268
  z196 := Tryz.sizeOf268
  v196 := Tryz.zeroValue268
  t198 := Tryz.underlying271
  a198 := Tryz.isAgg271
  z198 := Tryz.sizeOf271
  v198 := Tryz.zeroValue271
  t201 := Tryz.underlying274
  a201 := Tryz.isAgg274
  z201 := Tryz.sizeOf274
  v201 := Tryz.zeroValue274
  t226 := Tryz.underlying276
  a226 := Tryz.isAgg276
  z226 := Tryz.sizeOf276
  v226 := Tryz.zeroValue276
  t227 := Tryz.underlying277
  a227 := Tryz.isAgg277
  z227 := Tryz.sizeOf277
  v227 := Tryz.zeroValue277
  g0 := by kernel_rfl
  g6 := by kernel_rfl }
end Go.Proofs
end
section
set_option linter.unusedVariables false
namespace Go.Proofs.YtpoiijkodpnobaaGreatDoor
open Go Go.Fw Go.RowKit Go.Shelf
abbrev strings_Fields.As : Shs := .cons (.x .s) .nil
abbrev strings_Fields.m : Back := [(true, .l .s)]
abbrev strings_Fields.f (a : ByteArray) : Option (List ByteArray) := bif decide (a.size < 4294967281) && a.data.toList.all (fun b => decide (b.toNat < 128)) then some ((Lib.fields a.data.toList).map fun l => bs l) else none
noncomputable abbrev strings_Fields.row : Row := fnRow 191 strings_Fields.As strings_Fields.m strings_Fields.f
theorem strings_Fields.row_ok : RowOK P G0 strings_Fields.row := by
  have key : ∀ (ds : List D) (a : ByteArray) (q : List ByteArray), decArgs strings_Fields.As ds = some a → strings_Fields.f a = some q → Fw.Enters P 191 ∧ PCall P G0 191 ds (.fr 1 (.t .s q)) := by
    intro ds a q ha hq
    refine ⟨ent_of Tryz.func191 (by kernel_rfl) (by kernel_rfl), ?_⟩
    have hds := (decArgs_argD ha).symm
    refine PCall.coe (ds' := argD strings_Fields.As a) ?_ (by rw [← hds]; exact coeA_len) fun w I f hf => by rw [← hds]; exact coeA_rel hf
    refine pcall_belowI fun w I K vs hg hI hK hsz hr => ?_
    have h0 := hr 0 (.s a) rfl
    have hvs : vs = #[.string a] := by
      have hs : vs.size = 1 := hsz
      rw [Array.getD_eq_getD_getElem?, Array.getElem?_eq_getElem (by omega)] at h0
      simp only [Option.getD_some] at h0
      refine Array.ext (by simpa using hs) fun i hi hi' => ?_
      match i, hi with
      | 0, _ => cases h : vs[0] <;> rw [h] at h0 <;> cases h0; rfl
      | i + 1, hi => omega
    subst hvs
    unfold strings_Fields.f at hq
    obtain ⟨hb, hq⟩ := cond_some hq
    simp only [Bool.and_eq_true, decide_eq_true_eq, List.all_eq_true] at hb
    injection hq with hq
    subst hq
    refine (Any.strings_Fields Tryz.lays157 (by kernel_rfl) (by kernel_rfl) a w hb.1 (fun j b hj => hb.2 b (List.mem_of_getElem? hj)) (tab_of_glob hg (g := 8) (by kernel_rfl) (by kernel_rfl))).mono ?_
    rintro e w' ⟨rfl, rfl⟩
    refine ⟨_, rfl, alloc_below _ _, ?_⟩
    obtain ⟨l, hl⟩ : ∃ l, Lib.fields a.data.toList = l := ⟨_, rfl⟩
    rw [hl]
    have := frOK_alloc (w := w) (I := I) (K := K) (xs := (l.map fun l => bs l).map D.s) (vs := l.map fun l => Value.string ⟨l.toArray⟩) (t := 9) hI hK (by simp) (fun x hx => by
      obtain ⟨y, _, rfl⟩ := List.mem_map.1 hx; rfl) (fun v hv => by
      obtain ⟨y, _, rfl⟩ := List.mem_map.1 hv; rfl) (fun j d hj => by
      simp only [List.getElem?_map] at hj
      obtain ⟨y, hy, rfl⟩ := Option.map_eq_some_iff.1 hj
      obtain ⟨z, hz, rfl⟩ := Option.map_eq_some_iff.1 hy
      simp only [Array.getD_eq_getD_getElem?, List.getElem?_toArray, List.getElem?_map, hz, Option.map_some, Option.getD_some]
      exact RelD.s _)
    simp only [List.length_map] at this
    exact .inl this
  exact fun ds a q => key ds a q
end Go.Proofs.YtpoiijkodpnobaaGreatDoor
end
section
namespace Go.Proofs
open Go.Shelf
def Tryz.laysC172_ren : Go.Shelf.Ren := ⟨fun | 172 => 193 | 244 => 200 | 245 => 122 | 247 => 142 | 279 => 153 | 280 => 154 | 281 => 155 | 282 => 156 | 287 => 121 | 316 => 177 | 171 => 52 | 205 => 178 | 321 => 151 | 322 => 152 | 243 => 90 | 246 => 124 | 283 => 157 | 284 => 158 | 285 => 159 | 286 => 160 | 129 => 180 | 317 => 179 | 318 => 181 | 319 => 182 | 320 => 183 | 337 => 189 | 338 => 190 | n => n, fun | 9 => 9 | 3 => 3 | 75 => 141 | 76 => 170 | 4 => 4 | 5 => 5 | 167 => 206 | 37 => 132 | 0 => 0 | 85 => 161 | 2 => 2 | 168 => 208 | 53 => 95 | 175 => 142 | 46 => 163 | 210 => 234 | 127 => 204 | 145 => 247 | 143 => 245 | 21 => 21 | 171 => 211 | 173 => 214 | 212 => 237 | 51 => 200 | 20 => 20 | 213 => 238 | 232 => 257 | 233 => 258 | 80 => 173 | n => n, fun | 15 => 2 | 16 => 3 | 17 => 4 | 18 => 6 | 19 => 7 | n => n⟩
theorem Tryz.laysC172 : Go.Proofs.LaysC.n172 Tryz.prog Tryz.laysC172_ren := {
  mixed := by kernel_rfl
  f129 := Tryz.func180.trans (congrArg some (by kernel_rfl))
  f171 := Tryz.func52.trans (congrArg some (by kernel_rfl))
  f172 := Tryz.func193.trans (congrArg some (by kernel_rfl))
  f205 := Tryz.func178.trans (congrArg some (by kernel_rfl))
  f243 := Tryz.func90.trans (congrArg some (by kernel_rfl))
  f244 := Tryz.func200.trans (congrArg some (by kernel_rfl))
  f245 := Tryz.func122.trans (congrArg some (by kernel_rfl))
  f246 := Tryz.func124.trans (congrArg some (by kernel_rfl))
  f247 := Tryz.func142.trans (congrArg some (by kernel_rfl))
  f279 := Tryz.func153.trans (congrArg some (by kernel_rfl))
  f280 := Tryz.func154.trans (congrArg some (by kernel_rfl))
  f281 := Tryz.func155.trans (congrArg some (by kernel_rfl))
  f282 := Tryz.func156.trans (congrArg some (by kernel_rfl))
  f283 := Tryz.func157.trans (congrArg some (by kernel_rfl))
  f284 := Tryz.func158.trans (congrArg some (by kernel_rfl))
  f285 := Tryz.func159.trans (congrArg some (by kernel_rfl))
  f286 := Tryz.func160.trans (congrArg some (by kernel_rfl))
  f287 := Tryz.func121.trans (congrArg some (by kernel_rfl))
  f316 := Tryz.func177.trans (congrArg some (by kernel_rfl))
  f317 := Tryz.func179.trans (congrArg some (by kernel_rfl))
  f318 := Tryz.func181.trans (congrArg some (by kernel_rfl))
  f319 := Tryz.func182.trans (congrArg some (by kernel_rfl))
  f320 := Tryz.func183.trans (congrArg some (by kernel_rfl))
  f321 := Tryz.func151.trans (congrArg some (by kernel_rfl))
  f322 := Tryz.func152.trans (congrArg some (by kernel_rfl))
  f337 := Tryz.func189.trans (congrArg some (by kernel_rfl))
  f338 := Tryz.func190.trans (congrArg some (by kernel_rfl))
  t0 := Tryz.underlying0
  a0 := Tryz.isAgg0
  z0 := Tryz.sizeOf0
  v0 := Tryz.zeroValue0
  t2 := Tryz.underlying2
  a2 := Tryz.isAgg2
  z2 := Tryz.sizeOf2
  v2 := Tryz.zeroValue2
  t3 := Tryz.underlying3
  a3 := Tryz.isAgg3
  z3 := Tryz.sizeOf3
  v3 := Tryz.zeroValue3
  t4 := Tryz.underlying4
  a4 := Tryz.isAgg4
  z4 := Tryz.sizeOf4
  v4 := Tryz.zeroValue4
  t5 := Tryz.underlying5
  a5 := Tryz.isAgg5
  z5 := Tryz.sizeOf5
  v5 := Tryz.zeroValue5
  t9 := Tryz.underlying9
  a9 := Tryz.isAgg9
  z9 := Tryz.sizeOf9
  v9 := Tryz.zeroValue9
  t20 := Tryz.underlying20
  a20 := Tryz.isAgg20
  z20 := Tryz.sizeOf20
  v20 := Tryz.zeroValue20
  t21 := Tryz.underlying21
  a21 := Tryz.isAgg21
  z21 := Tryz.sizeOf21
  v21 := Tryz.zeroValue21
  t37 := Tryz.underlying132
  a37 := Tryz.isAgg132
  z37 := Tryz.sizeOf132
  v37 := Tryz.zeroValue132
  t46 := Tryz.underlying163
  a46 := Tryz.isAgg163
  z46 := Tryz.sizeOf163
  v46 := Tryz.zeroValue163
  t51 := Tryz.underlying200
  a51 := Tryz.isAgg200
  z51 := Tryz.sizeOf200
  v51 := Tryz.zeroValue200
  t53 := Tryz.underlying95
  a53 := Tryz.isAgg95
  z53 := Tryz.sizeOf95
  v53 := Tryz.zeroValue95
  t75 := Tryz.underlying141
  a75 := Tryz.isAgg141
  z75 := Tryz.sizeOf141
  v75 := Tryz.zeroValue141
  t76 := Tryz.underlying170
  a76 := Tryz.isAgg170
  z76 := Tryz.sizeOf170
  v76 := Tryz.zeroValue170
  t85 := Tryz.underlying161
  a85 := Tryz.isAgg161
  z85 := Tryz.sizeOf161
  v85 := Tryz.zeroValue161
  t127 := Tryz.underlying204
  a127 := Tryz.isAgg204
  z127 := Tryz.sizeOf204
  v127 := Tryz.zeroValue204
  t143 := Tryz.underlying245
  a143 := Tryz.isAgg245
  z143 := Tryz.sizeOf245
  v143 := Tryz.zeroValue245
  t145 := Tryz.underlying247
  a145 := Tryz.isAgg247
  z145 := Tryz.sizeOf247
  v145 := Tryz.zeroValue247
  t167 := Tryz.underlying206
  a167 := Tryz.isAgg206
  z167 := Tryz.sizeOf206
  v167 := Tryz.zeroValue206
  t168 := Tryz.underlying208
  a168 := Tryz.isAgg208
  z168 := Tryz.sizeOf208
  v168 := Tryz.zeroValue208
  t171 := Tryz.underlying211
  a171 := Tryz.isAgg211
  z171 := Tryz.sizeOf211
  v171 := Tryz.zeroValue211
  t173 := Tryz.underlying214
  a173 := Tryz.isAgg214
  z173 := Tryz.sizeOf214
  v173 := Tryz.zeroValue214
  t175 := Tryz.underlying142
  a175 := Tryz.isAgg142
  z175 := Tryz.sizeOf142
  v175 := Tryz.zeroValue142
  t210 := Tryz.underlying234
  a210 := Tryz.isAgg234
  z210 := Tryz.sizeOf234
  v210 := Tryz.zeroValue234
  t212 := Tryz.underlying237
  a212 := Tryz.isAgg237
  z212 := Tryz.sizeOf237
  v212 := Tryz.zeroValue237
  t213 := Tryz.underlying238
  a213 := Tryz.isAgg238
  z213 := Tryz.sizeOf238
  t232 := Tryz.underlying257
  a232 := Tryz.isAgg257
  z232 := Tryz.sizeOf257
  v232 := Tryz.zeroValue257
  t233 := Tryz.underlying258
  a233 := Tryz.isAgg258
  z233 := Tryz.sizeOf258
  v233 := Tryz.zeroValue258
  g15 := by kernel_rfl
  g16 := by kernel_rfl
  g17 := by kernel_rfl
  g18 := by kernel_rfl
  g19 := by kernel_rfl
  t80 := Tryz.underlying173
  a80 := Tryz.isAgg173
  z80 := Tryz.sizeOf173
  v80 := Tryz.zeroValue173
  i0 := by kernel_rfl
  i2 := by kernel_rfl
  i3 := by kernel_rfl
  i4 := by kernel_rfl
  i5 := by kernel_rfl
  i9 := by kernel_rfl
  i20 := by kernel_rfl
  i21 := by kernel_rfl
  i37 := by kernel_rfl
  i46 := by kernel_rfl
  i51 := by kernel_rfl
  i53 := by kernel_rfl
  i75 := by kernel_rfl
  i76 := by kernel_rfl
  i80 := by kernel_rfl
  i85 := by kernel_rfl
  i127 := by kernel_rfl
  i143 := by kernel_rfl
  i145 := by kernel_rfl
  i167 := by kernel_rfl
  i168 := by kernel_rfl
  i171 := by kernel_rfl
  i173 := by kernel_rfl
  i175 := by kernel_rfl
  i210 := by kernel_rfl
  i212 := by kernel_rfl
  i232 := by kernel_rfl
  i233 := by kernel_rfl
  m15 := by kernel_rfl
  m16 := by kernel_rfl
  m17 := by kernel_rfl
  m18 := by kernel_rfl
  m19 := by kernel_rfl
  c0 := by kernel_rfl
  c2 := by kernel_rfl
  c3 := by kernel_rfl
  c4 := by kernel_rfl
  c5 := by kernel_rfl
  c9 := by kernel_rfl
  c20 := by kernel_rfl
  c21 := by kernel_rfl
  c37 := by kernel_rfl
  c46 := by kernel_rfl
  c51 := by kernel_rfl
  c53 := by kernel_rfl
  c75 := by kernel_rfl
  c76 := by kernel_rfl
  c80 := by kernel_rfl
  c85 := by kernel_rfl
  c127 := by kernel_rfl
  c143 := by kernel_rfl
  c145 := by kernel_rfl
  c167 := by kernel_rfl
  c168 := by kernel_rfl
  c171 := by kernel_rfl
  c173 := by kernel_rfl
  c175 := by kernel_rfl
  c210 := by kernel_rfl
  c212 := by kernel_rfl
  c213 := by kernel_rfl
  c232 := by kernel_rfl
  c233 := by kernel_rfl }
end Go.Proofs
end
section
set_option linter.unusedVariables false
namespace Go.Proofs.YtpoiijkodpnobaaGreatDoor
open Go Go.Fw Go.RowKit Go.Shelf
def atoiU (l : List UInt8) : Int × Bool := match Lib.atoiAll l with
  | .ok v => (v, false)
  | .«syntax» => (0, true)
  | .range => (Lib.atoiSat l, true)
abbrev strconv_Atoi.As : Shs := .cons (.x .s) .nil
abbrev strconv_Atoi.m : Back := [(false, .i .i64), (false, .e)]
abbrev strconv_Atoi.f (a : ByteArray) : Option (Int × Bool) := bif decide (a.size ≤ 281474976710656) then some (atoiU a.data.toList) else none
noncomputable abbrev strconv_Atoi.row : Row := fnRow 193 strconv_Atoi.As strconv_Atoi.m strconv_Atoi.f
theorem atoi_bytes_below (w : World) (t : TypeId) (s : ByteArray) : Below w.heap.size w (Lib.bytesWorld w t s) := by
  unfold Lib.bytesWorld World.freeze
  rw [if_neg (by decide)]
  refine ⟨rfl, rfl, rfl, by simp, fun k hk => ?_⟩
  show ((w.heap.push _).modify _ _)[k]? = _
  rw [Array.getElem?_modify, if_neg (by show ¬ w.heap.size = k; omega), Array.getElem?_push, if_neg (by omega)]
theorem strconv_Atoi.row_ok : RowOK P G1 strconv_Atoi.row := by
  have key : ∀ (ds : List D) (a : ByteArray) (q : Int × Bool), decArgs strconv_Atoi.As ds = some a → strconv_Atoi.f a = some q → Fw.Enters P 193 ∧ PCall P G1 193 ds (.tp [.i .i64 q.1, .er q.2]) := by
    intro ds a q ha hq
    refine ⟨ent_of Tryz.func193 (by kernel_rfl) (by kernel_rfl), ?_⟩
    have hds := (decArgs_argD ha).symm
    refine PCall.coe (ds' := argD strconv_Atoi.As a) ?_ (by rw [← hds]; exact coeA_len) fun w I f hf => by rw [← hds]; exact coeA_rel hf
    refine pcall_below fun w I K vs hg hsz hr => ?_
    have h0 := hr 0 (.s a) rfl
    have hvs : vs = #[.string a] := by
      have hs : vs.size = 1 := hsz
      rw [Array.getD_eq_getD_getElem?, Array.getElem?_eq_getElem (by omega)] at h0
      simp only [Option.getD_some] at h0
      refine Array.ext (by simpa using hs) fun i hi hi' => ?_
      match i, hi with
      | 0, _ => cases h : vs[0] <;> rw [h] at h0 <;> cases h0; rfl
      | i + 1, hi => omega
    subst hvs
    unfold strconv_Atoi.f at hq
    obtain ⟨hb, hq⟩ := cond_some hq
    simp only [decide_eq_true_eq] at hb
    injection hq with hq
    subst hq
    unfold atoiU
    have tup : ∀ (w' : World) (n : Int) (b : Bool) (v : Value), RelD w' I (.er b) v → RelX w' I K (.tp [.i .i64 n, .er b]) (.tuple #[.int .i64 n, v]) := fun w' n b v hv => ⟨_, rfl, RelD.i .i64 n, ⟨hv, trivial, fun b h => by cases b <;> cases h⟩, fun b h => by cases h⟩
    cases hp : Lib.atoiAll a.data.toList with
    | ok u =>
      refine (Any.strconv_Atoi_ok Tryz.laysC172 a (by omega) u hp w).mono ?_
      rintro e w' ⟨rfl, hw⟩
      refine ⟨_, rfl, ?_, tup w' u false _ .er0⟩
      rcases hw with rfl | ⟨t, rfl⟩
      · exact .refl _ _
      · exact atoi_bytes_below _ _ _
    | «syntax» =>
      obtain ⟨tp, p, hv⟩ := err_of_glob (P := P) hg (g := 2) (name := "strconv.ErrSyntax") (by kernel_rfl) rfl
      refine (Any.strconv_Atoi_syntax_var Tryz.laysC172 a hb hp tp p w hv).mono ?_
      rintro e w' ⟨N, rfl, _, _, hb⟩
      exact ⟨_, rfl, hb, tup w' 0 true _ (.er1 _ _)⟩
    | range =>
      obtain ⟨tp, p, hv⟩ := err_of_glob (P := P) hg (g := 3) (name := "strconv.ErrRange") (by kernel_rfl) rfl
      refine (Any.strconv_Atoi_range_var Tryz.laysC172 a hb hp tp p w hv).mono ?_
      rintro e w' ⟨N, rfl, _, _, hb⟩
      exact ⟨_, rfl, hb, tup w' _ true _ (.er1 _ _)⟩
  exact fun ds a q => key ds a q
end Go.Proofs.YtpoiijkodpnobaaGreatDoor
end
section
set_option linter.unusedVariables false
set_option maxRecDepth 100000
namespace Go.Proofs.YtpoiijkodpnobaaGreatDoor
open Go Go.Fw
abbrev spec_kinds.row : Row := closedRow 195 (.ag [.s (bs []), .nF, .s (bs [110]), .fn 203 [], .s (bs [97, 110]), .fn 204 [], .s (bs [97, 110, 115]), .fn 206 [], .s (bs [98]), .fn 207 []])
theorem spec_kinds.row_ok : RowOK P G0 spec_kinds.row := closed_ok e0_ok j0_ok (T := []) trivial 60 (by kernel_rfl)
noncomputable abbrev spec_read.tab : List (ByteArray × Int × Int × Int) := [(bs [110, 46, 46, 49, 57], (1, 2, 19)), (bs [110, 54], (1, 0, 6)), (bs [110, 49, 50], (1, 0, 12)), (bs [110, 49, 48], (1, 0, 10)), (bs [110, 56], (1, 0, 8)), (bs [110, 52], (1, 0, 4)), (bs [110, 51], (1, 0, 3)), (bs [110, 50], (1, 0, 2)), (bs [110, 49], (1, 0, 1)), (bs [97, 110, 57], (2, 0, 9)), (bs [110, 46, 46, 49, 49], (1, 2, 11)), (bs [97, 110, 46, 46, 50, 56], (2, 2, 28)), (bs [97, 110, 115, 46, 46, 51, 55], (3, 2, 37)), (bs [97, 110, 115, 46, 46, 46, 49, 48, 52], (3, 3, 104)), (bs [97, 110, 49, 50], (2, 0, 12)), (bs [97, 110, 54], (2, 0, 6)), (bs [97, 110, 50], (2, 0, 2)), (bs [97, 110, 51], (2, 0, 3)), (bs [97, 110, 115, 56], (3, 0, 8)), (bs [97, 110, 115, 49, 53], (3, 0, 15)), (bs [97, 110, 115, 52, 48], (3, 0, 40)), (bs [97, 110, 115, 46, 46, 50, 53], (3, 2, 25)), (bs [97, 110, 115, 46, 46, 55, 54], (3, 2, 76)), (bs [97, 110, 115, 46, 46, 46, 57, 57, 57], (3, 3, 999)), (bs [98, 56], (4, 0, 8)), (bs [110, 49, 54], (1, 0, 16)), (bs [97, 110, 46, 46, 46, 49, 50, 48], (2, 3, 120)), (bs [110, 52, 50], (1, 0, 42)), (bs [97, 110, 49], (2, 0, 1)), (bs [97, 110, 53], (2, 0, 5)), (bs [97, 110, 55], (2, 0, 7)), (bs [97, 110, 52, 50], (2, 0, 42)), (bs [97, 110, 49, 55], (2, 0, 17)), (bs [97, 110, 115, 50, 53], (3, 0, 25)), (bs [97, 110, 115, 46, 46, 49, 55], (3, 2, 17)), (bs [97, 110, 115, 46, 46, 50, 56], (3, 2, 28)), (bs [97, 110, 115, 46, 46, 46, 49, 48, 48], (3, 3, 100))]
abbrev spec_read.m : Back := [(false, T_api_Spec)]
noncomputable def spec_read.f : ByteArray → Option (Int × Int × Int) := lookT spec_read.tab
noncomputable abbrev spec_read.row : Row := fnRow 194 AsT spec_read.m spec_read.f
theorem spec_read.row_ok : RowOK P G1 spec_read.row := told_texts e0_ok j0_ok (T := [strconv_Atoi.row, spec_kinds.row]) ⟨strconv_Atoi.row_ok, ⟨(spec_kinds.row_ok.more g01), trivial⟩⟩ (m := spec_read.m) spec_read.tab 60 (by kernel_rfl)
abbrev spec_table.row : Row := closedRow 186 (.ag [.i .i64 0, .i .i64 0, .i .i64 0, .i .i64 0, .i .i64 0, .i .i64 0, .i .i64 1, .i .i64 2, .i .i64 19, .i .i64 1, .i .i64 0, .i .i64 6, .i .i64 1, .i .i64 0, .i .i64 12, .i .i64 1, .i .i64 0, .i .i64 12, .i .i64 1, .i .i64 0, .i .i64 12, .i .i64 1, .i .i64 0, .i .i64 10, .i .i64 1, .i .i64 0, .i .i64 8, .i .i64 1, .i .i64 0, .i .i64 8, .i .i64 1, .i .i64 0, .i .i64 8, .i .i64 1, .i .i64 0, .i .i64 6, .i .i64 1, .i .i64 0, .i .i64 6, .i .i64 1, .i .i64 0, .i .i64 4, .i .i64 1, .i .i64 0, .i .i64 4, .i .i64 1, .i .i64 0, .i .i64 4, .i .i64 1, .i .i64 0, .i .i64 4, .i .i64 1, .i .i64 0, .i .i64 4, .i .i64 1, .i .i64 0, .i .i64 4, .i .i64 1, .i .i64 0, .i .i64 3, .i .i64 1, .i .i64 0, .i .i64 3, .i .i64 1, .i .i64 0, .i .i64 3, .i .i64 1, .i .i64 0, .i .i64 3, .i .i64 1, .i .i64 0, .i .i64 3, .i .i64 1, .i .i64 0, .i .i64 3, .i .i64 1, .i .i64 0, .i .i64 2, .i .i64 1, .i .i64 0, .i .i64 2, .i .i64 1, .i .i64 0, .i .i64 1, .i .i64 2, .i .i64 0, .i .i64 9, .i .i64 2, .i .i64 0, .i .i64 9, .i .i64 2, .i .i64 0, .i .i64 9, .i .i64 2, .i .i64 0, .i .i64 9, .i .i64 1, .i .i64 2, .i .i64 11, .i .i64 1, .i .i64 2, .i .i64 11, .i .i64 2, .i .i64 2, .i .i64 28, .i .i64 3, .i .i64 2, .i .i64 37, .i .i64 3, .i .i64 3, .i .i64 104, .i .i64 2, .i .i64 0, .i .i64 12, .i .i64 2, .i .i64 0, .i .i64 6, .i .i64 2, .i .i64 0, .i .i64 2, .i .i64 2, .i .i64 0, .i .i64 3, .i .i64 3, .i .i64 0, .i .i64 8, .i .i64 3, .i .i64 0, .i .i64 15, .i .i64 3, .i .i64 0, .i .i64 40, .i .i64 3, .i .i64 2, .i .i64 25, .i .i64 3, .i .i64 2, .i .i64 76, .i .i64 3, .i .i64 3, .i .i64 999, .i .i64 3, .i .i64 3, .i .i64 999, .i .i64 3, .i .i64 3, .i .i64 999, .i .i64 2, .i .i64 0, .i .i64 3, .i .i64 2, .i .i64 0, .i .i64 3, .i .i64 2, .i .i64 0, .i .i64 3, .i .i64 4, .i .i64 0, .i .i64 8, .i .i64 1, .i .i64 0, .i .i64 16, .i .i64 2, .i .i64 3, .i .i64 120, .i .i64 3, .i .i64 3, .i .i64 999, .i .i64 3, .i .i64 3, .i .i64 999, .i .i64 3, .i .i64 3, .i .i64 999, .i .i64 3, .i .i64 3, .i .i64 999, .i .i64 3, .i .i64 3, .i .i64 999, .i .i64 3, .i .i64 3, .i .i64 999, .i .i64 3, .i .i64 3, .i .i64 999, .i .i64 3, .i .i64 3, .i .i64 999, .i .i64 3, .i .i64 3, .i .i64 999, .i .i64 4, .i .i64 0, .i .i64 8, .i .i64 0, .i .i64 0, .i .i64 0, .i .i64 1, .i .i64 0, .i .i64 1, .i .i64 1, .i .i64 0, .i .i64 2, .i .i64 1, .i .i64 0, .i .i64 3, .i .i64 1, .i .i64 0, .i .i64 3, .i .i64 1, .i .i64 0, .i .i64 3, .i .i64 1, .i .i64 0, .i .i64 4, .i .i64 1, .i .i64 0, .i .i64 4, .i .i64 1, .i .i64 0, .i .i64 6, .i .i64 1, .i .i64 0, .i .i64 10, .i .i64 1, .i .i64 0, .i .i64 10, .i .i64 1, .i .i64 0, .i .i64 10, .i .i64 1, .i .i64 0, .i .i64 10, .i .i64 1, .i .i64 0, .i .i64 10, .i .i64 1, .i .i64 0, .i .i64 10, .i .i64 1, .i .i64 0, .i .i64 10, .i .i64 1, .i .i64 0, .i .i64 10, .i .i64 1, .i .i64 0, .i .i64 12, .i .i64 1, .i .i64 0, .i .i64 12, .i .i64 1, .i .i64 0, .i .i64 12, .i .i64 1, .i .i64 0, .i .i64 12, .i .i64 1, .i .i64 0, .i .i64 16, .i .i64 1, .i .i64 0, .i .i64 16, .i .i64 1, .i .i64 0, .i .i64 16, .i .i64 1, .i .i64 0, .i .i64 16, .i .i64 1, .i .i64 0, .i .i64 42, .i .i64 2, .i .i64 0, .i .i64 1, .i .i64 2, .i .i64 0, .i .i64 2, .i .i64 2, .i .i64 0, .i .i64 5, .i .i64 2, .i .i64 0, .i .i64 7, .i .i64 2, .i .i64 0, .i .i64 42, .i .i64 4, .i .i64 0, .i .i64 8, .i .i64 2, .i .i64 0, .i .i64 17, .i .i64 3, .i .i64 0, .i .i64 25, .i .i64 1, .i .i64 2, .i .i64 11, .i .i64 1, .i .i64 2, .i .i64 11, .i .i64 3, .i .i64 2, .i .i64 17, .i .i64 3, .i .i64 2, .i .i64 28, .i .i64 3, .i .i64 2, .i .i64 28, .i .i64 3, .i .i64 3, .i .i64 100, .i .i64 3, .i .i64 3, .i .i64 999, .i .i64 3, .i .i64 3, .i .i64 999, .i .i64 3, .i .i64 3, .i .i64 999, .i .i64 3, .i .i64 3, .i .i64 999, .i .i64 3, .i .i64 3, .i .i64 999, .i .i64 3, .i .i64 3, .i .i64 999, .i .i64 3, .i .i64 3, .i .i64 999, .i .i64 3, .i .i64 3, .i .i64 999, .i .i64 3, .i .i64 3, .i .i64 999, .i .i64 3, .i .i64 3, .i .i64 999, .i .i64 3, .i .i64 3, .i .i64 999, .i .i64 3, .i .i64 3, .i .i64 999, .i .i64 3, .i .i64 3, .i .i64 999, .i .i64 3, .i .i64 3, .i .i64 999, .i .i64 3, .i .i64 3, .i .i64 999, .i .i64 3, .i .i64 3, .i .i64 999, .i .i64 3, .i .i64 3, .i .i64 999, .i .i64 3, .i .i64 3, .i .i64 999, .i .i64 3, .i .i64 3, .i .i64 999, .i .i64 3, .i .i64 3, .i .i64 999, .i .i64 3, .i .i64 3, .i .i64 999, .i .i64 3, .i .i64 3, .i .i64 999, .i .i64 3, .i .i64 3, .i .i64 999, .i .i64 4, .i .i64 0, .i .i64 8])
theorem spec_table.row_ok : RowOK P G1 spec_table.row := closed_ok e0_ok j0_ok (T := [strings_Fields.row, strconv_Atoi.row, spec_read.row]) ⟨(strings_Fields.row_ok.more g01), ⟨strconv_Atoi.row_ok, ⟨spec_read.row_ok, trivial⟩⟩⟩ 400 (by kernel_rfl)
abbrev spec_Of.As : Shs := (.cons (.x (.i .i64)) .nil)
abbrev spec_Of.m : Back := [(false, T_api_Spec), (false, (.i .i64))]
noncomputable abbrev spec_Of.H : HK := hk P G1 E0 J0 [spec_table.row] noLoops 4
theorem spec_Of.rows : TabOK P G1 (tabF [spec_table.row]) := rows_ok (ws := [spec_table.row]) ⟨spec_table.row_ok, trivial⟩
theorem spec_Of.hok : HKOK P spec_Of.H := hk_ok e0_ok j0_ok spec_Of.rows (fun g n => noLoops_ok g n) 4
noncomputable def spec_Of.f (a : Int) : Option ((Int × (Int × Int)) × Int) := (bif (decide ((a < (0 : Int)))) then (some (((0 : Int), ((0 : Int), (0 : Int))), (7 : Int))) else (bif (decide ((a > (128 : Int)))) then (some (((0 : Int), ((0 : Int), (0 : Int))), (7 : Int))) else (bif ((decide (((0 : Int) ≤ a))) && (decide ((a < (129 : Int))))) then (bif (((List.getD [((0 : Int), ((0 : Int), (0 : Int))), ((0 : Int), ((0 : Int), (0 : Int))), ((1 : Int), ((2 : Int), (19 : Int))), ((1 : Int), ((0 : Int), (6 : Int))), ((1 : Int), ((0 : Int), (12 : Int))), ((1 : Int), ((0 : Int), (12 : Int))), ((1 : Int), ((0 : Int), (12 : Int))), ((1 : Int), ((0 : Int), (10 : Int))), ((1 : Int), ((0 : Int), (8 : Int))), ((1 : Int), ((0 : Int), (8 : Int))), ((1 : Int), ((0 : Int), (8 : Int))), ((1 : Int), ((0 : Int), (6 : Int))), ((1 : Int), ((0 : Int), (6 : Int))), ((1 : Int), ((0 : Int), (4 : Int))), ((1 : Int), ((0 : Int), (4 : Int))), ((1 : Int), ((0 : Int), (4 : Int))), ((1 : Int), ((0 : Int), (4 : Int))), ((1 : Int), ((0 : Int), (4 : Int))), ((1 : Int), ((0 : Int), (4 : Int))), ((1 : Int), ((0 : Int), (3 : Int))), ((1 : Int), ((0 : Int), (3 : Int))), ((1 : Int), ((0 : Int), (3 : Int))), ((1 : Int), ((0 : Int), (3 : Int))), ((1 : Int), ((0 : Int), (3 : Int))), ((1 : Int), ((0 : Int), (3 : Int))), ((1 : Int), ((0 : Int), (2 : Int))), ((1 : Int), ((0 : Int), (2 : Int))), ((1 : Int), ((0 : Int), (1 : Int))), ((2 : Int), ((0 : Int), (9 : Int))), ((2 : Int), ((0 : Int), (9 : Int))), ((2 : Int), ((0 : Int), (9 : Int))), ((2 : Int), ((0 : Int), (9 : Int))), ((1 : Int), ((2 : Int), (11 : Int))), ((1 : Int), ((2 : Int), (11 : Int))), ((2 : Int), ((2 : Int), (28 : Int))), ((3 : Int), ((2 : Int), (37 : Int))), ((3 : Int), ((3 : Int), (104 : Int))), ((2 : Int), ((0 : Int), (12 : Int))), ((2 : Int), ((0 : Int), (6 : Int))), ((2 : Int), ((0 : Int), (2 : Int))), ((2 : Int), ((0 : Int), (3 : Int))), ((3 : Int), ((0 : Int), (8 : Int))), ((3 : Int), ((0 : Int), (15 : Int))), ((3 : Int), ((0 : Int), (40 : Int))), ((3 : Int), ((2 : Int), (25 : Int))), ((3 : Int), ((2 : Int), (76 : Int))), ((3 : Int), ((3 : Int), (999 : Int))), ((3 : Int), ((3 : Int), (999 : Int))), ((3 : Int), ((3 : Int), (999 : Int))), ((2 : Int), ((0 : Int), (3 : Int))), ((2 : Int), ((0 : Int), (3 : Int))), ((2 : Int), ((0 : Int), (3 : Int))), ((4 : Int), ((0 : Int), (8 : Int))), ((1 : Int), ((0 : Int), (16 : Int))), ((2 : Int), ((3 : Int), (120 : Int))), ((3 : Int), ((3 : Int), (999 : Int))), ((3 : Int), ((3 : Int), (999 : Int))), ((3 : Int), ((3 : Int), (999 : Int))), ((3 : Int), ((3 : Int), (999 : Int))), ((3 : Int), ((3 : Int), (999 : Int))), ((3 : Int), ((3 : Int), (999 : Int))), ((3 : Int), ((3 : Int), (999 : Int))), ((3 : Int), ((3 : Int), (999 : Int))), ((3 : Int), ((3 : Int), (999 : Int))), ((4 : Int), ((0 : Int), (8 : Int))), ((0 : Int), ((0 : Int), (0 : Int))), ((1 : Int), ((0 : Int), (1 : Int))), ((1 : Int), ((0 : Int), (2 : Int))), ((1 : Int), ((0 : Int), (3 : Int))), ((1 : Int), ((0 : Int), (3 : Int))), ((1 : Int), ((0 : Int), (3 : Int))), ((1 : Int), ((0 : Int), (4 : Int))), ((1 : Int), ((0 : Int), (4 : Int))), ((1 : Int), ((0 : Int), (6 : Int))), ((1 : Int), ((0 : Int), (10 : Int))), ((1 : Int), ((0 : Int), (10 : Int))), ((1 : Int), ((0 : Int), (10 : Int))), ((1 : Int), ((0 : Int), (10 : Int))), ((1 : Int), ((0 : Int), (10 : Int))), ((1 : Int), ((0 : Int), (10 : Int))), ((1 : Int), ((0 : Int), (10 : Int))), ((1 : Int), ((0 : Int), (10 : Int))), ((1 : Int), ((0 : Int), (12 : Int))), ((1 : Int), ((0 : Int), (12 : Int))), ((1 : Int), ((0 : Int), (12 : Int))), ((1 : Int), ((0 : Int), (12 : Int))), ((1 : Int), ((0 : Int), (16 : Int))), ((1 : Int), ((0 : Int), (16 : Int))), ((1 : Int), ((0 : Int), (16 : Int))), ((1 : Int), ((0 : Int), (16 : Int))), ((1 : Int), ((0 : Int), (42 : Int))), ((2 : Int), ((0 : Int), (1 : Int))), ((2 : Int), ((0 : Int), (2 : Int))), ((2 : Int), ((0 : Int), (5 : Int))), ((2 : Int), ((0 : Int), (7 : Int))), ((2 : Int), ((0 : Int), (42 : Int))), ((4 : Int), ((0 : Int), (8 : Int))), ((2 : Int), ((0 : Int), (17 : Int))), ((3 : Int), ((0 : Int), (25 : Int))), ((1 : Int), ((2 : Int), (11 : Int))), ((1 : Int), ((2 : Int), (11 : Int))), ((3 : Int), ((2 : Int), (17 : Int))), ((3 : Int), ((2 : Int), (28 : Int))), ((3 : Int), ((2 : Int), (28 : Int))), ((3 : Int), ((3 : Int), (100 : Int))), ((3 : Int), ((3 : Int), (999 : Int))), ((3 : Int), ((3 : Int), (999 : Int))), ((3 : Int), ((3 : Int), (999 : Int))), ((3 : Int), ((3 : Int), (999 : Int))), ((3 : Int), ((3 : Int), (999 : Int))), ((3 : Int), ((3 : Int), (999 : Int))), ((3 : Int), ((3 : Int), (999 : Int))), ((3 : Int), ((3 : Int), (999 : Int))), ((3 : Int), ((3 : Int), (999 : Int))), ((3 : Int), ((3 : Int), (999 : Int))), ((3 : Int), ((3 : Int), (999 : Int))), ((3 : Int), ((3 : Int), (999 : Int))), ((3 : Int), ((3 : Int), (999 : Int))), ((3 : Int), ((3 : Int), (999 : Int))), ((3 : Int), ((3 : Int), (999 : Int))), ((3 : Int), ((3 : Int), (999 : Int))), ((3 : Int), ((3 : Int), (999 : Int))), ((3 : Int), ((3 : Int), (999 : Int))), ((3 : Int), ((3 : Int), (999 : Int))), ((3 : Int), ((3 : Int), (999 : Int))), ((3 : Int), ((3 : Int), (999 : Int))), ((3 : Int), ((3 : Int), (999 : Int))), ((3 : Int), ((3 : Int), (999 : Int))), ((4 : Int), ((0 : Int), (8 : Int)))] (Int.toNat a) (Ty.dflt T_api_Spec)).1 == (0 : Int)) && (((List.getD [((0 : Int), ((0 : Int), (0 : Int))), ((0 : Int), ((0 : Int), (0 : Int))), ((1 : Int), ((2 : Int), (19 : Int))), ((1 : Int), ((0 : Int), (6 : Int))), ((1 : Int), ((0 : Int), (12 : Int))), ((1 : Int), ((0 : Int), (12 : Int))), ((1 : Int), ((0 : Int), (12 : Int))), ((1 : Int), ((0 : Int), (10 : Int))), ((1 : Int), ((0 : Int), (8 : Int))), ((1 : Int), ((0 : Int), (8 : Int))), ((1 : Int), ((0 : Int), (8 : Int))), ((1 : Int), ((0 : Int), (6 : Int))), ((1 : Int), ((0 : Int), (6 : Int))), ((1 : Int), ((0 : Int), (4 : Int))), ((1 : Int), ((0 : Int), (4 : Int))), ((1 : Int), ((0 : Int), (4 : Int))), ((1 : Int), ((0 : Int), (4 : Int))), ((1 : Int), ((0 : Int), (4 : Int))), ((1 : Int), ((0 : Int), (4 : Int))), ((1 : Int), ((0 : Int), (3 : Int))), ((1 : Int), ((0 : Int), (3 : Int))), ((1 : Int), ((0 : Int), (3 : Int))), ((1 : Int), ((0 : Int), (3 : Int))), ((1 : Int), ((0 : Int), (3 : Int))), ((1 : Int), ((0 : Int), (3 : Int))), ((1 : Int), ((0 : Int), (2 : Int))), ((1 : Int), ((0 : Int), (2 : Int))), ((1 : Int), ((0 : Int), (1 : Int))), ((2 : Int), ((0 : Int), (9 : Int))), ((2 : Int), ((0 : Int), (9 : Int))), ((2 : Int), ((0 : Int), (9 : Int))), ((2 : Int), ((0 : Int), (9 : Int))), ((1 : Int), ((2 : Int), (11 : Int))), ((1 : Int), ((2 : Int), (11 : Int))), ((2 : Int), ((2 : Int), (28 : Int))), ((3 : Int), ((2 : Int), (37 : Int))), ((3 : Int), ((3 : Int), (104 : Int))), ((2 : Int), ((0 : Int), (12 : Int))), ((2 : Int), ((0 : Int), (6 : Int))), ((2 : Int), ((0 : Int), (2 : Int))), ((2 : Int), ((0 : Int), (3 : Int))), ((3 : Int), ((0 : Int), (8 : Int))), ((3 : Int), ((0 : Int), (15 : Int))), ((3 : Int), ((0 : Int), (40 : Int))), ((3 : Int), ((2 : Int), (25 : Int))), ((3 : Int), ((2 : Int), (76 : Int))), ((3 : Int), ((3 : Int), (999 : Int))), ((3 : Int), ((3 : Int), (999 : Int))), ((3 : Int), ((3 : Int), (999 : Int))), ((2 : Int), ((0 : Int), (3 : Int))), ((2 : Int), ((0 : Int), (3 : Int))), ((2 : Int), ((0 : Int), (3 : Int))), ((4 : Int), ((0 : Int), (8 : Int))), ((1 : Int), ((0 : Int), (16 : Int))), ((2 : Int), ((3 : Int), (120 : Int))), ((3 : Int), ((3 : Int), (999 : Int))), ((3 : Int), ((3 : Int), (999 : Int))), ((3 : Int), ((3 : Int), (999 : Int))), ((3 : Int), ((3 : Int), (999 : Int))), ((3 : Int), ((3 : Int), (999 : Int))), ((3 : Int), ((3 : Int), (999 : Int))), ((3 : Int), ((3 : Int), (999 : Int))), ((3 : Int), ((3 : Int), (999 : Int))), ((3 : Int), ((3 : Int), (999 : Int))), ((4 : Int), ((0 : Int), (8 : Int))), ((0 : Int), ((0 : Int), (0 : Int))), ((1 : Int), ((0 : Int), (1 : Int))), ((1 : Int), ((0 : Int), (2 : Int))), ((1 : Int), ((0 : Int), (3 : Int))), ((1 : Int), ((0 : Int), (3 : Int))), ((1 : Int), ((0 : Int), (3 : Int))), ((1 : Int), ((0 : Int), (4 : Int))), ((1 : Int), ((0 : Int), (4 : Int))), ((1 : Int), ((0 : Int), (6 : Int))), ((1 : Int), ((0 : Int), (10 : Int))), ((1 : Int), ((0 : Int), (10 : Int))), ((1 : Int), ((0 : Int), (10 : Int))), ((1 : Int), ((0 : Int), (10 : Int))), ((1 : Int), ((0 : Int), (10 : Int))), ((1 : Int), ((0 : Int), (10 : Int))), ((1 : Int), ((0 : Int), (10 : Int))), ((1 : Int), ((0 : Int), (10 : Int))), ((1 : Int), ((0 : Int), (12 : Int))), ((1 : Int), ((0 : Int), (12 : Int))), ((1 : Int), ((0 : Int), (12 : Int))), ((1 : Int), ((0 : Int), (12 : Int))), ((1 : Int), ((0 : Int), (16 : Int))), ((1 : Int), ((0 : Int), (16 : Int))), ((1 : Int), ((0 : Int), (16 : Int))), ((1 : Int), ((0 : Int), (16 : Int))), ((1 : Int), ((0 : Int), (42 : Int))), ((2 : Int), ((0 : Int), (1 : Int))), ((2 : Int), ((0 : Int), (2 : Int))), ((2 : Int), ((0 : Int), (5 : Int))), ((2 : Int), ((0 : Int), (7 : Int))), ((2 : Int), ((0 : Int), (42 : Int))), ((4 : Int), ((0 : Int), (8 : Int))), ((2 : Int), ((0 : Int), (17 : Int))), ((3 : Int), ((0 : Int), (25 : Int))), ((1 : Int), ((2 : Int), (11 : Int))), ((1 : Int), ((2 : Int), (11 : Int))), ((3 : Int), ((2 : Int), (17 : Int))), ((3 : Int), ((2 : Int), (28 : Int))), ((3 : Int), ((2 : Int), (28 : Int))), ((3 : Int), ((3 : Int), (100 : Int))), ((3 : Int), ((3 : Int), (999 : Int))), ((3 : Int), ((3 : Int), (999 : Int))), ((3 : Int), ((3 : Int), (999 : Int))), ((3 : Int), ((3 : Int), (999 : Int))), ((3 : Int), ((3 : Int), (999 : Int))), ((3 : Int), ((3 : Int), (999 : Int))), ((3 : Int), ((3 : Int), (999 : Int))), ((3 : Int), ((3 : Int), (999 : Int))), ((3 : Int), ((3 : Int), (999 : Int))), ((3 : Int), ((3 : Int), (999 : Int))), ((3 : Int), ((3 : Int), (999 : Int))), ((3 : Int), ((3 : Int), (999 : Int))), ((3 : Int), ((3 : Int), (999 : Int))), ((3 : Int), ((3 : Int), (999 : Int))), ((3 : Int), ((3 : Int), (999 : Int))), ((3 : Int), ((3 : Int), (999 : Int))), ((3 : Int), ((3 : Int), (999 : Int))), ((3 : Int), ((3 : Int), (999 : Int))), ((3 : Int), ((3 : Int), (999 : Int))), ((3 : Int), ((3 : Int), (999 : Int))), ((3 : Int), ((3 : Int), (999 : Int))), ((3 : Int), ((3 : Int), (999 : Int))), ((3 : Int), ((3 : Int), (999 : Int))), ((4 : Int), ((0 : Int), (8 : Int)))] (Int.toNat a) (Ty.dflt T_api_Spec)).2.1 == (0 : Int)) && (((List.getD [((0 : Int), ((0 : Int), (0 : Int))), ((0 : Int), ((0 : Int), (0 : Int))), ((1 : Int), ((2 : Int), (19 : Int))), ((1 : Int), ((0 : Int), (6 : Int))), ((1 : Int), ((0 : Int), (12 : Int))), ((1 : Int), ((0 : Int), (12 : Int))), ((1 : Int), ((0 : Int), (12 : Int))), ((1 : Int), ((0 : Int), (10 : Int))), ((1 : Int), ((0 : Int), (8 : Int))), ((1 : Int), ((0 : Int), (8 : Int))), ((1 : Int), ((0 : Int), (8 : Int))), ((1 : Int), ((0 : Int), (6 : Int))), ((1 : Int), ((0 : Int), (6 : Int))), ((1 : Int), ((0 : Int), (4 : Int))), ((1 : Int), ((0 : Int), (4 : Int))), ((1 : Int), ((0 : Int), (4 : Int))), ((1 : Int), ((0 : Int), (4 : Int))), ((1 : Int), ((0 : Int), (4 : Int))), ((1 : Int), ((0 : Int), (4 : Int))), ((1 : Int), ((0 : Int), (3 : Int))), ((1 : Int), ((0 : Int), (3 : Int))), ((1 : Int), ((0 : Int), (3 : Int))), ((1 : Int), ((0 : Int), (3 : Int))), ((1 : Int), ((0 : Int), (3 : Int))), ((1 : Int), ((0 : Int), (3 : Int))), ((1 : Int), ((0 : Int), (2 : Int))), ((1 : Int), ((0 : Int), (2 : Int))), ((1 : Int), ((0 : Int), (1 : Int))), ((2 : Int), ((0 : Int), (9 : Int))), ((2 : Int), ((0 : Int), (9 : Int))), ((2 : Int), ((0 : Int), (9 : Int))), ((2 : Int), ((0 : Int), (9 : Int))), ((1 : Int), ((2 : Int), (11 : Int))), ((1 : Int), ((2 : Int), (11 : Int))), ((2 : Int), ((2 : Int), (28 : Int))), ((3 : Int), ((2 : Int), (37 : Int))), ((3 : Int), ((3 : Int), (104 : Int))), ((2 : Int), ((0 : Int), (12 : Int))), ((2 : Int), ((0 : Int), (6 : Int))), ((2 : Int), ((0 : Int), (2 : Int))), ((2 : Int), ((0 : Int), (3 : Int))), ((3 : Int), ((0 : Int), (8 : Int))), ((3 : Int), ((0 : Int), (15 : Int))), ((3 : Int), ((0 : Int), (40 : Int))), ((3 : Int), ((2 : Int), (25 : Int))), ((3 : Int), ((2 : Int), (76 : Int))), ((3 : Int), ((3 : Int), (999 : Int))), ((3 : Int), ((3 : Int), (999 : Int))), ((3 : Int), ((3 : Int), (999 : Int))), ((2 : Int), ((0 : Int), (3 : Int))), ((2 : Int), ((0 : Int), (3 : Int))), ((2 : Int), ((0 : Int), (3 : Int))), ((4 : Int), ((0 : Int), (8 : Int))), ((1 : Int), ((0 : Int), (16 : Int))), ((2 : Int), ((3 : Int), (120 : Int))), ((3 : Int), ((3 : Int), (999 : Int))), ((3 : Int), ((3 : Int), (999 : Int))), ((3 : Int), ((3 : Int), (999 : Int))), ((3 : Int), ((3 : Int), (999 : Int))), ((3 : Int), ((3 : Int), (999 : Int))), ((3 : Int), ((3 : Int), (999 : Int))), ((3 : Int), ((3 : Int), (999 : Int))), ((3 : Int), ((3 : Int), (999 : Int))), ((3 : Int), ((3 : Int), (999 : Int))), ((4 : Int), ((0 : Int), (8 : Int))), ((0 : Int), ((0 : Int), (0 : Int))), ((1 : Int), ((0 : Int), (1 : Int))), ((1 : Int), ((0 : Int), (2 : Int))), ((1 : Int), ((0 : Int), (3 : Int))), ((1 : Int), ((0 : Int), (3 : Int))), ((1 : Int), ((0 : Int), (3 : Int))), ((1 : Int), ((0 : Int), (4 : Int))), ((1 : Int), ((0 : Int), (4 : Int))), ((1 : Int), ((0 : Int), (6 : Int))), ((1 : Int), ((0 : Int), (10 : Int))), ((1 : Int), ((0 : Int), (10 : Int))), ((1 : Int), ((0 : Int), (10 : Int))), ((1 : Int), ((0 : Int), (10 : Int))), ((1 : Int), ((0 : Int), (10 : Int))), ((1 : Int), ((0 : Int), (10 : Int))), ((1 : Int), ((0 : Int), (10 : Int))), ((1 : Int), ((0 : Int), (10 : Int))), ((1 : Int), ((0 : Int), (12 : Int))), ((1 : Int), ((0 : Int), (12 : Int))), ((1 : Int), ((0 : Int), (12 : Int))), ((1 : Int), ((0 : Int), (12 : Int))), ((1 : Int), ((0 : Int), (16 : Int))), ((1 : Int), ((0 : Int), (16 : Int))), ((1 : Int), ((0 : Int), (16 : Int))), ((1 : Int), ((0 : Int), (16 : Int))), ((1 : Int), ((0 : Int), (42 : Int))), ((2 : Int), ((0 : Int), (1 : Int))), ((2 : Int), ((0 : Int), (2 : Int))), ((2 : Int), ((0 : Int), (5 : Int))), ((2 : Int), ((0 : Int), (7 : Int))), ((2 : Int), ((0 : Int), (42 : Int))), ((4 : Int), ((0 : Int), (8 : Int))), ((2 : Int), ((0 : Int), (17 : Int))), ((3 : Int), ((0 : Int), (25 : Int))), ((1 : Int), ((2 : Int), (11 : Int))), ((1 : Int), ((2 : Int), (11 : Int))), ((3 : Int), ((2 : Int), (17 : Int))), ((3 : Int), ((2 : Int), (28 : Int))), ((3 : Int), ((2 : Int), (28 : Int))), ((3 : Int), ((3 : Int), (100 : Int))), ((3 : Int), ((3 : Int), (999 : Int))), ((3 : Int), ((3 : Int), (999 : Int))), ((3 : Int), ((3 : Int), (999 : Int))), ((3 : Int), ((3 : Int), (999 : Int))), ((3 : Int), ((3 : Int), (999 : Int))), ((3 : Int), ((3 : Int), (999 : Int))), ((3 : Int), ((3 : Int), (999 : Int))), ((3 : Int), ((3 : Int), (999 : Int))), ((3 : Int), ((3 : Int), (999 : Int))), ((3 : Int), ((3 : Int), (999 : Int))), ((3 : Int), ((3 : Int), (999 : Int))), ((3 : Int), ((3 : Int), (999 : Int))), ((3 : Int), ((3 : Int), (999 : Int))), ((3 : Int), ((3 : Int), (999 : Int))), ((3 : Int), ((3 : Int), (999 : Int))), ((3 : Int), ((3 : Int), (999 : Int))), ((3 : Int), ((3 : Int), (999 : Int))), ((3 : Int), ((3 : Int), (999 : Int))), ((3 : Int), ((3 : Int), (999 : Int))), ((3 : Int), ((3 : Int), (999 : Int))), ((3 : Int), ((3 : Int), (999 : Int))), ((3 : Int), ((3 : Int), (999 : Int))), ((3 : Int), ((3 : Int), (999 : Int))), ((4 : Int), ((0 : Int), (8 : Int)))] (Int.toNat a) (Ty.dflt T_api_Spec)).2.2 == (0 : Int)) && true))) then (some ((List.getD [((0 : Int), ((0 : Int), (0 : Int))), ((0 : Int), ((0 : Int), (0 : Int))), ((1 : Int), ((2 : Int), (19 : Int))), ((1 : Int), ((0 : Int), (6 : Int))), ((1 : Int), ((0 : Int), (12 : Int))), ((1 : Int), ((0 : Int), (12 : Int))), ((1 : Int), ((0 : Int), (12 : Int))), ((1 : Int), ((0 : Int), (10 : Int))), ((1 : Int), ((0 : Int), (8 : Int))), ((1 : Int), ((0 : Int), (8 : Int))), ((1 : Int), ((0 : Int), (8 : Int))), ((1 : Int), ((0 : Int), (6 : Int))), ((1 : Int), ((0 : Int), (6 : Int))), ((1 : Int), ((0 : Int), (4 : Int))), ((1 : Int), ((0 : Int), (4 : Int))), ((1 : Int), ((0 : Int), (4 : Int))), ((1 : Int), ((0 : Int), (4 : Int))), ((1 : Int), ((0 : Int), (4 : Int))), ((1 : Int), ((0 : Int), (4 : Int))), ((1 : Int), ((0 : Int), (3 : Int))), ((1 : Int), ((0 : Int), (3 : Int))), ((1 : Int), ((0 : Int), (3 : Int))), ((1 : Int), ((0 : Int), (3 : Int))), ((1 : Int), ((0 : Int), (3 : Int))), ((1 : Int), ((0 : Int), (3 : Int))), ((1 : Int), ((0 : Int), (2 : Int))), ((1 : Int), ((0 : Int), (2 : Int))), ((1 : Int), ((0 : Int), (1 : Int))), ((2 : Int), ((0 : Int), (9 : Int))), ((2 : Int), ((0 : Int), (9 : Int))), ((2 : Int), ((0 : Int), (9 : Int))), ((2 : Int), ((0 : Int), (9 : Int))), ((1 : Int), ((2 : Int), (11 : Int))), ((1 : Int), ((2 : Int), (11 : Int))), ((2 : Int), ((2 : Int), (28 : Int))), ((3 : Int), ((2 : Int), (37 : Int))), ((3 : Int), ((3 : Int), (104 : Int))), ((2 : Int), ((0 : Int), (12 : Int))), ((2 : Int), ((0 : Int), (6 : Int))), ((2 : Int), ((0 : Int), (2 : Int))), ((2 : Int), ((0 : Int), (3 : Int))), ((3 : Int), ((0 : Int), (8 : Int))), ((3 : Int), ((0 : Int), (15 : Int))), ((3 : Int), ((0 : Int), (40 : Int))), ((3 : Int), ((2 : Int), (25 : Int))), ((3 : Int), ((2 : Int), (76 : Int))), ((3 : Int), ((3 : Int), (999 : Int))), ((3 : Int), ((3 : Int), (999 : Int))), ((3 : Int), ((3 : Int), (999 : Int))), ((2 : Int), ((0 : Int), (3 : Int))), ((2 : Int), ((0 : Int), (3 : Int))), ((2 : Int), ((0 : Int), (3 : Int))), ((4 : Int), ((0 : Int), (8 : Int))), ((1 : Int), ((0 : Int), (16 : Int))), ((2 : Int), ((3 : Int), (120 : Int))), ((3 : Int), ((3 : Int), (999 : Int))), ((3 : Int), ((3 : Int), (999 : Int))), ((3 : Int), ((3 : Int), (999 : Int))), ((3 : Int), ((3 : Int), (999 : Int))), ((3 : Int), ((3 : Int), (999 : Int))), ((3 : Int), ((3 : Int), (999 : Int))), ((3 : Int), ((3 : Int), (999 : Int))), ((3 : Int), ((3 : Int), (999 : Int))), ((3 : Int), ((3 : Int), (999 : Int))), ((4 : Int), ((0 : Int), (8 : Int))), ((0 : Int), ((0 : Int), (0 : Int))), ((1 : Int), ((0 : Int), (1 : Int))), ((1 : Int), ((0 : Int), (2 : Int))), ((1 : Int), ((0 : Int), (3 : Int))), ((1 : Int), ((0 : Int), (3 : Int))), ((1 : Int), ((0 : Int), (3 : Int))), ((1 : Int), ((0 : Int), (4 : Int))), ((1 : Int), ((0 : Int), (4 : Int))), ((1 : Int), ((0 : Int), (6 : Int))), ((1 : Int), ((0 : Int), (10 : Int))), ((1 : Int), ((0 : Int), (10 : Int))), ((1 : Int), ((0 : Int), (10 : Int))), ((1 : Int), ((0 : Int), (10 : Int))), ((1 : Int), ((0 : Int), (10 : Int))), ((1 : Int), ((0 : Int), (10 : Int))), ((1 : Int), ((0 : Int), (10 : Int))), ((1 : Int), ((0 : Int), (10 : Int))), ((1 : Int), ((0 : Int), (12 : Int))), ((1 : Int), ((0 : Int), (12 : Int))), ((1 : Int), ((0 : Int), (12 : Int))), ((1 : Int), ((0 : Int), (12 : Int))), ((1 : Int), ((0 : Int), (16 : Int))), ((1 : Int), ((0 : Int), (16 : Int))), ((1 : Int), ((0 : Int), (16 : Int))), ((1 : Int), ((0 : Int), (16 : Int))), ((1 : Int), ((0 : Int), (42 : Int))), ((2 : Int), ((0 : Int), (1 : Int))), ((2 : Int), ((0 : Int), (2 : Int))), ((2 : Int), ((0 : Int), (5 : Int))), ((2 : Int), ((0 : Int), (7 : Int))), ((2 : Int), ((0 : Int), (42 : Int))), ((4 : Int), ((0 : Int), (8 : Int))), ((2 : Int), ((0 : Int), (17 : Int))), ((3 : Int), ((0 : Int), (25 : Int))), ((1 : Int), ((2 : Int), (11 : Int))), ((1 : Int), ((2 : Int), (11 : Int))), ((3 : Int), ((2 : Int), (17 : Int))), ((3 : Int), ((2 : Int), (28 : Int))), ((3 : Int), ((2 : Int), (28 : Int))), ((3 : Int), ((3 : Int), (100 : Int))), ((3 : Int), ((3 : Int), (999 : Int))), ((3 : Int), ((3 : Int), (999 : Int))), ((3 : Int), ((3 : Int), (999 : Int))), ((3 : Int), ((3 : Int), (999 : Int))), ((3 : Int), ((3 : Int), (999 : Int))), ((3 : Int), ((3 : Int), (999 : Int))), ((3 : Int), ((3 : Int), (999 : Int))), ((3 : Int), ((3 : Int), (999 : Int))), ((3 : Int), ((3 : Int), (999 : Int))), ((3 : Int), ((3 : Int), (999 : Int))), ((3 : Int), ((3 : Int), (999 : Int))), ((3 : Int), ((3 : Int), (999 : Int))), ((3 : Int), ((3 : Int), (999 : Int))), ((3 : Int), ((3 : Int), (999 : Int))), ((3 : Int), ((3 : Int), (999 : Int))), ((3 : Int), ((3 : Int), (999 : Int))), ((3 : Int), ((3 : Int), (999 : Int))), ((3 : Int), ((3 : Int), (999 : Int))), ((3 : Int), ((3 : Int), (999 : Int))), ((3 : Int), ((3 : Int), (999 : Int))), ((3 : Int), ((3 : Int), (999 : Int))), ((3 : Int), ((3 : Int), (999 : Int))), ((3 : Int), ((3 : Int), (999 : Int))), ((4 : Int), ((0 : Int), (8 : Int)))] (Int.toNat a) (Ty.dflt T_api_Spec)), (7 : Int))) else (some ((List.getD [((0 : Int), ((0 : Int), (0 : Int))), ((0 : Int), ((0 : Int), (0 : Int))), ((1 : Int), ((2 : Int), (19 : Int))), ((1 : Int), ((0 : Int), (6 : Int))), ((1 : Int), ((0 : Int), (12 : Int))), ((1 : Int), ((0 : Int), (12 : Int))), ((1 : Int), ((0 : Int), (12 : Int))), ((1 : Int), ((0 : Int), (10 : Int))), ((1 : Int), ((0 : Int), (8 : Int))), ((1 : Int), ((0 : Int), (8 : Int))), ((1 : Int), ((0 : Int), (8 : Int))), ((1 : Int), ((0 : Int), (6 : Int))), ((1 : Int), ((0 : Int), (6 : Int))), ((1 : Int), ((0 : Int), (4 : Int))), ((1 : Int), ((0 : Int), (4 : Int))), ((1 : Int), ((0 : Int), (4 : Int))), ((1 : Int), ((0 : Int), (4 : Int))), ((1 : Int), ((0 : Int), (4 : Int))), ((1 : Int), ((0 : Int), (4 : Int))), ((1 : Int), ((0 : Int), (3 : Int))), ((1 : Int), ((0 : Int), (3 : Int))), ((1 : Int), ((0 : Int), (3 : Int))), ((1 : Int), ((0 : Int), (3 : Int))), ((1 : Int), ((0 : Int), (3 : Int))), ((1 : Int), ((0 : Int), (3 : Int))), ((1 : Int), ((0 : Int), (2 : Int))), ((1 : Int), ((0 : Int), (2 : Int))), ((1 : Int), ((0 : Int), (1 : Int))), ((2 : Int), ((0 : Int), (9 : Int))), ((2 : Int), ((0 : Int), (9 : Int))), ((2 : Int), ((0 : Int), (9 : Int))), ((2 : Int), ((0 : Int), (9 : Int))), ((1 : Int), ((2 : Int), (11 : Int))), ((1 : Int), ((2 : Int), (11 : Int))), ((2 : Int), ((2 : Int), (28 : Int))), ((3 : Int), ((2 : Int), (37 : Int))), ((3 : Int), ((3 : Int), (104 : Int))), ((2 : Int), ((0 : Int), (12 : Int))), ((2 : Int), ((0 : Int), (6 : Int))), ((2 : Int), ((0 : Int), (2 : Int))), ((2 : Int), ((0 : Int), (3 : Int))), ((3 : Int), ((0 : Int), (8 : Int))), ((3 : Int), ((0 : Int), (15 : Int))), ((3 : Int), ((0 : Int), (40 : Int))), ((3 : Int), ((2 : Int), (25 : Int))), ((3 : Int), ((2 : Int), (76 : Int))), ((3 : Int), ((3 : Int), (999 : Int))), ((3 : Int), ((3 : Int), (999 : Int))), ((3 : Int), ((3 : Int), (999 : Int))), ((2 : Int), ((0 : Int), (3 : Int))), ((2 : Int), ((0 : Int), (3 : Int))), ((2 : Int), ((0 : Int), (3 : Int))), ((4 : Int), ((0 : Int), (8 : Int))), ((1 : Int), ((0 : Int), (16 : Int))), ((2 : Int), ((3 : Int), (120 : Int))), ((3 : Int), ((3 : Int), (999 : Int))), ((3 : Int), ((3 : Int), (999 : Int))), ((3 : Int), ((3 : Int), (999 : Int))), ((3 : Int), ((3 : Int), (999 : Int))), ((3 : Int), ((3 : Int), (999 : Int))), ((3 : Int), ((3 : Int), (999 : Int))), ((3 : Int), ((3 : Int), (999 : Int))), ((3 : Int), ((3 : Int), (999 : Int))), ((3 : Int), ((3 : Int), (999 : Int))), ((4 : Int), ((0 : Int), (8 : Int))), ((0 : Int), ((0 : Int), (0 : Int))), ((1 : Int), ((0 : Int), (1 : Int))), ((1 : Int), ((0 : Int), (2 : Int))), ((1 : Int), ((0 : Int), (3 : Int))), ((1 : Int), ((0 : Int), (3 : Int))), ((1 : Int), ((0 : Int), (3 : Int))), ((1 : Int), ((0 : Int), (4 : Int))), ((1 : Int), ((0 : Int), (4 : Int))), ((1 : Int), ((0 : Int), (6 : Int))), ((1 : Int), ((0 : Int), (10 : Int))), ((1 : Int), ((0 : Int), (10 : Int))), ((1 : Int), ((0 : Int), (10 : Int))), ((1 : Int), ((0 : Int), (10 : Int))), ((1 : Int), ((0 : Int), (10 : Int))), ((1 : Int), ((0 : Int), (10 : Int))), ((1 : Int), ((0 : Int), (10 : Int))), ((1 : Int), ((0 : Int), (10 : Int))), ((1 : Int), ((0 : Int), (12 : Int))), ((1 : Int), ((0 : Int), (12 : Int))), ((1 : Int), ((0 : Int), (12 : Int))), ((1 : Int), ((0 : Int), (12 : Int))), ((1 : Int), ((0 : Int), (16 : Int))), ((1 : Int), ((0 : Int), (16 : Int))), ((1 : Int), ((0 : Int), (16 : Int))), ((1 : Int), ((0 : Int), (16 : Int))), ((1 : Int), ((0 : Int), (42 : Int))), ((2 : Int), ((0 : Int), (1 : Int))), ((2 : Int), ((0 : Int), (2 : Int))), ((2 : Int), ((0 : Int), (5 : Int))), ((2 : Int), ((0 : Int), (7 : Int))), ((2 : Int), ((0 : Int), (42 : Int))), ((4 : Int), ((0 : Int), (8 : Int))), ((2 : Int), ((0 : Int), (17 : Int))), ((3 : Int), ((0 : Int), (25 : Int))), ((1 : Int), ((2 : Int), (11 : Int))), ((1 : Int), ((2 : Int), (11 : Int))), ((3 : Int), ((2 : Int), (17 : Int))), ((3 : Int), ((2 : Int), (28 : Int))), ((3 : Int), ((2 : Int), (28 : Int))), ((3 : Int), ((3 : Int), (100 : Int))), ((3 : Int), ((3 : Int), (999 : Int))), ((3 : Int), ((3 : Int), (999 : Int))), ((3 : Int), ((3 : Int), (999 : Int))), ((3 : Int), ((3 : Int), (999 : Int))), ((3 : Int), ((3 : Int), (999 : Int))), ((3 : Int), ((3 : Int), (999 : Int))), ((3 : Int), ((3 : Int), (999 : Int))), ((3 : Int), ((3 : Int), (999 : Int))), ((3 : Int), ((3 : Int), (999 : Int))), ((3 : Int), ((3 : Int), (999 : Int))), ((3 : Int), ((3 : Int), (999 : Int))), ((3 : Int), ((3 : Int), (999 : Int))), ((3 : Int), ((3 : Int), (999 : Int))), ((3 : Int), ((3 : Int), (999 : Int))), ((3 : Int), ((3 : Int), (999 : Int))), ((3 : Int), ((3 : Int), (999 : Int))), ((3 : Int), ((3 : Int), (999 : Int))), ((3 : Int), ((3 : Int), (999 : Int))), ((3 : Int), ((3 : Int), (999 : Int))), ((3 : Int), ((3 : Int), (999 : Int))), ((3 : Int), ((3 : Int), (999 : Int))), ((3 : Int), ((3 : Int), (999 : Int))), ((3 : Int), ((3 : Int), (999 : Int))), ((4 : Int), ((0 : Int), (8 : Int)))] (Int.toNat a) (Ty.dflt T_api_Spec)), (0 : Int)))) else none)))
theorem spec_Of.ok : ∀ a : Vals spec_Of.As.tys, fnK P spec_Of.H (lp []) 169 spec_Of.As spec_Of.m a some = spec_Of.f a := fun a => by kernel_rfl
noncomputable abbrev spec_Of.row : Row := fnRow 169 spec_Of.As spec_Of.m spec_Of.f
theorem spec_Of.row_ok : RowOK P G1 spec_Of.row := row_told spec_Of.hok (lp_of (l := []) trivial) (fun _ => rfl) spec_Of.ok
abbrev spec_pure.As : Shs := (.cons (.x T_api_Spec) (.cons (.x .s) .nil))
abbrev spec_pure.m : Back := [(false, .b)]
noncomputable abbrev spec_pure.H : HK := hk P G0 E0 J0 [spec_kinds.row] noLoops 4
theorem spec_pure.rows : TabOK P G0 (tabF [spec_kinds.row]) := rows_ok (ws := [spec_kinds.row]) ⟨spec_kinds.row_ok, trivial⟩
theorem spec_pure.hok : HKOK P spec_pure.H := hk_ok e0_ok j0_ok spec_pure.rows (fun g n => noLoops_ok g n) 4
noncomputable abbrev spec_pure.sh4 : SSh := ⟨[(1, (.x .s)), (5, (.c 1)), (13, (.x (.i .i64))), (14, (.x (.i .i64)))], []⟩
noncomputable abbrev spec_pure.os4 : PEnds := [((.exit 0), ⟨[], []⟩)]
noncomputable def spec_pure.t4 (s : (ByteArray × (Int × Int))) : Option ((ByteArray × (Int × Int)) ⊕ (Unit)) := (bif (decide ((s.2.2 < s.2.1))) then (bif ((decide (((0 : Int) ≤ s.2.2))) && (decide ((s.2.2 < (s.1.size : Int))))) then none else none) else (some (.inr ())))
theorem spec_pure.t4_ok : ∀ s : Vals spec_pure.sh4.tys, turnK P spec_pure.H (lp []) (bodyAt (codeOf P 187) 4) 0 spec_pure.sh4 spec_pure.os4 s some = spec_pure.t4 s := fun s => by kernel_rfl
noncomputable def spec_pure.l4 : (ByteArray × (Int × Int)) → Option (Unit) := rounds spec_pure.t4
noncomputable abbrev spec_pure.sh4b : SSh := ⟨[(1, (.x .s)), (5, (.fn 203 .nil)), (13, (.x (.i .i64))), (14, (.x (.i .i64)))], []⟩
noncomputable abbrev spec_pure.os4b : PEnds := [(.ret, ⟨[(4, (.x .b))], []⟩), ((.exit 0), ⟨[], []⟩)]
noncomputable def spec_pure.t4b (s : (ByteArray × (Int × Int))) : Option ((ByteArray × (Int × Int)) ⊕ (Bool ⊕ Unit)) := (bif (decide ((s.2.2 < s.2.1))) then (bif ((decide (((0 : Int) ≤ s.2.2))) && (decide ((s.2.2 < (s.1.size : Int))))) then (bif (decide (((bt s.1 (Int.toNat s.2.2)) ≥ (48 : Int)))) then (bif (!(decide (((bt s.1 (Int.toNat s.2.2)) ≤ (57 : Int))))) then (some (.inr (.inl false))) else (some (.inl (s.1, (s.2.1, (IntKind.wrap .i64 (s.2.2 + (1 : Int)))))))) else (some (.inr (.inl false)))) else none) else (some (.inr (.inr ()))))
theorem spec_pure.t4b_ok : ∀ s : Vals spec_pure.sh4b.tys, turnK P spec_pure.H (lp []) (bodyAt (codeOf P 187) 4) 0 spec_pure.sh4b spec_pure.os4b s some = spec_pure.t4b s := fun s => by kernel_rfl
noncomputable def spec_pure.l4b : (ByteArray × (Int × Int)) → Option (Bool ⊕ Unit) := rounds spec_pure.t4b
noncomputable abbrev spec_pure.sh4c : SSh := ⟨[(1, (.x .s)), (5, (.fn 204 .nil)), (13, (.x (.i .i64))), (14, (.x (.i .i64)))], []⟩
noncomputable abbrev spec_pure.os4c : PEnds := [(.ret, ⟨[(4, (.x .b))], []⟩), ((.exit 0), ⟨[], []⟩)]
noncomputable def spec_pure.t4c (s : (ByteArray × (Int × Int))) : Option ((ByteArray × (Int × Int)) ⊕ (Bool ⊕ Unit)) := (bif (decide ((s.2.2 < s.2.1))) then (bif ((decide (((0 : Int) ≤ s.2.2))) && (decide ((s.2.2 < (s.1.size : Int))))) then (bif (decide (((bt s.1 (Int.toNat s.2.2)) ≥ (48 : Int)))) then (bif (decide (((bt s.1 (Int.toNat s.2.2)) ≤ (57 : Int)))) then (some (.inl (s.1, (s.2.1, (IntKind.wrap .i64 (s.2.2 + (1 : Int))))))) else (bif (decide (((bitsOp Go.BinOp.or Go.IntKind.u8 (bt s.1 (Int.toNat s.2.2)) (32 : Int)) ≥ (97 : Int)))) then (bif (decide (((bitsOp Go.BinOp.or Go.IntKind.u8 (bt s.1 (Int.toNat s.2.2)) (32 : Int)) ≤ (122 : Int)))) then (some (.inl (s.1, (s.2.1, (IntKind.wrap .i64 (s.2.2 + (1 : Int))))))) else (bif (!((bt s.1 (Int.toNat s.2.2)) == (32 : Int))) then (some (.inr (.inl false))) else (some (.inl (s.1, (s.2.1, (IntKind.wrap .i64 (s.2.2 + (1 : Int))))))))) else (bif (!((bt s.1 (Int.toNat s.2.2)) == (32 : Int))) then (some (.inr (.inl false))) else (some (.inl (s.1, (s.2.1, (IntKind.wrap .i64 (s.2.2 + (1 : Int)))))))))) else (bif (decide (((bitsOp Go.BinOp.or Go.IntKind.u8 (bt s.1 (Int.toNat s.2.2)) (32 : Int)) ≥ (97 : Int)))) then (bif (decide (((bitsOp Go.BinOp.or Go.IntKind.u8 (bt s.1 (Int.toNat s.2.2)) (32 : Int)) ≤ (122 : Int)))) then (some (.inl (s.1, (s.2.1, (IntKind.wrap .i64 (s.2.2 + (1 : Int))))))) else (bif (!((bt s.1 (Int.toNat s.2.2)) == (32 : Int))) then (some (.inr (.inl false))) else (some (.inl (s.1, (s.2.1, (IntKind.wrap .i64 (s.2.2 + (1 : Int))))))))) else (bif (!((bt s.1 (Int.toNat s.2.2)) == (32 : Int))) then (some (.inr (.inl false))) else (some (.inl (s.1, (s.2.1, (IntKind.wrap .i64 (s.2.2 + (1 : Int)))))))))) else none) else (some (.inr (.inr ()))))
theorem spec_pure.t4c_ok : ∀ s : Vals spec_pure.sh4c.tys, turnK P spec_pure.H (lp []) (bodyAt (codeOf P 187) 4) 0 spec_pure.sh4c spec_pure.os4c s some = spec_pure.t4c s := fun s => by kernel_rfl
noncomputable def spec_pure.l4c : (ByteArray × (Int × Int)) → Option (Bool ⊕ Unit) := rounds spec_pure.t4c
noncomputable abbrev spec_pure.sh4d : SSh := ⟨[(1, (.x .s)), (5, (.fn 206 .nil)), (13, (.x (.i .i64))), (14, (.x (.i .i64)))], []⟩
noncomputable abbrev spec_pure.os4d : PEnds := [(.ret, ⟨[(4, (.x .b))], []⟩), ((.exit 0), ⟨[], []⟩)]
noncomputable def spec_pure.t4d (s : (ByteArray × (Int × Int))) : Option ((ByteArray × (Int × Int)) ⊕ (Bool ⊕ Unit)) := (bif (decide ((s.2.2 < s.2.1))) then (bif ((decide (((0 : Int) ≤ s.2.2))) && (decide ((s.2.2 < (s.1.size : Int))))) then (bif (decide (((bt s.1 (Int.toNat s.2.2)) ≥ (32 : Int)))) then (bif (!(decide (((bt s.1 (Int.toNat s.2.2)) ≤ (126 : Int))))) then (some (.inr (.inl false))) else (some (.inl (s.1, (s.2.1, (IntKind.wrap .i64 (s.2.2 + (1 : Int)))))))) else (some (.inr (.inl false)))) else none) else (some (.inr (.inr ()))))
theorem spec_pure.t4d_ok : ∀ s : Vals spec_pure.sh4d.tys, turnK P spec_pure.H (lp []) (bodyAt (codeOf P 187) 4) 0 spec_pure.sh4d spec_pure.os4d s some = spec_pure.t4d s := fun s => by kernel_rfl
noncomputable def spec_pure.l4d : (ByteArray × (Int × Int)) → Option (Bool ⊕ Unit) := rounds spec_pure.t4d
noncomputable abbrev spec_pure.sh4e : SSh := ⟨[(1, (.x .s)), (5, (.fn 207 .nil)), (13, (.x (.i .i64))), (14, (.x (.i .i64)))], []⟩
noncomputable abbrev spec_pure.os4e : PEnds := [((.exit 0), ⟨[], []⟩)]
noncomputable def spec_pure.t4e (s : (ByteArray × (Int × Int))) : Option ((ByteArray × (Int × Int)) ⊕ (Unit)) := (bif (decide ((s.2.2 < s.2.1))) then (bif ((decide (((0 : Int) ≤ s.2.2))) && (decide ((s.2.2 < (s.1.size : Int))))) then (some (.inl (s.1, (s.2.1, (IntKind.wrap .i64 (s.2.2 + (1 : Int))))))) else none) else (some (.inr ())))
theorem spec_pure.t4e_ok : ∀ s : Vals spec_pure.sh4e.tys, turnK P spec_pure.H (lp []) (bodyAt (codeOf P 187) 4) 0 spec_pure.sh4e spec_pure.os4e s some = spec_pure.t4e s := fun s => by kernel_rfl
noncomputable def spec_pure.l4e : (ByteArray × (Int × Int)) → Option (Unit) := rounds spec_pure.t4e
noncomputable def spec_pure.f (a : ((Int × (Int × Int)) × ByteArray)) : Option Bool := (bif (a.1.1 == (0 : Int)) then (((spec_pure.l4 (a.2, ((a.2.size : Int), (0 : Int))))).bind fun x2 => (some true)) else (bif (a.1.1 == (1 : Int)) then (((spec_pure.l4b (a.2, ((a.2.size : Int), (0 : Int))))).bind fun x2 => (match x2 with | .inl x3 => (some x3) | .inr x3 => (some true))) else (bif (a.1.1 == (2 : Int)) then (((spec_pure.l4c (a.2, ((a.2.size : Int), (0 : Int))))).bind fun x2 => (match x2 with | .inl x3 => (some x3) | .inr x3 => (some true))) else (bif (a.1.1 == (3 : Int)) then (((spec_pure.l4d (a.2, ((a.2.size : Int), (0 : Int))))).bind fun x2 => (match x2 with | .inl x3 => (some x3) | .inr x3 => (some true))) else (bif (a.1.1 == (4 : Int)) then (((spec_pure.l4e (a.2, ((a.2.size : Int), (0 : Int))))).bind fun x2 => (some true)) else none)))))
theorem spec_pure.ok : ∀ a : Vals spec_pure.As.tys, fnK P spec_pure.H (lp [(4, (orS 0 spec_pure.sh4 (NodeT.summ ⟨spec_pure.sh4, spec_pure.os4, spec_pure.l4⟩ 0) (orS 0 spec_pure.sh4b (NodeT.summ ⟨spec_pure.sh4b, spec_pure.os4b, spec_pure.l4b⟩ 0) (orS 0 spec_pure.sh4c (NodeT.summ ⟨spec_pure.sh4c, spec_pure.os4c, spec_pure.l4c⟩ 0) (orS 0 spec_pure.sh4d (NodeT.summ ⟨spec_pure.sh4d, spec_pure.os4d, spec_pure.l4d⟩ 0) (NodeT.summ ⟨spec_pure.sh4e, spec_pure.os4e, spec_pure.l4e⟩ 0))))))]) 187 spec_pure.As spec_pure.m a some = spec_pure.f a := fun a => by kernel_rfl
noncomputable abbrev spec_pure.row : Row := fnRow 187 spec_pure.As spec_pure.m spec_pure.f
theorem spec_pure.row_ok : RowOK P G0 spec_pure.row := row_told spec_pure.hok (lp_of (l := [(4, (orS 0 spec_pure.sh4 (NodeT.summ ⟨spec_pure.sh4, spec_pure.os4, spec_pure.l4⟩ 0) (orS 0 spec_pure.sh4b (NodeT.summ ⟨spec_pure.sh4b, spec_pure.os4b, spec_pure.l4b⟩ 0) (orS 0 spec_pure.sh4c (NodeT.summ ⟨spec_pure.sh4c, spec_pure.os4c, spec_pure.l4c⟩ 0) (orS 0 spec_pure.sh4d (NodeT.summ ⟨spec_pure.sh4d, spec_pure.os4d, spec_pure.l4d⟩ 0) (NodeT.summ ⟨spec_pure.sh4e, spec_pure.os4e, spec_pure.l4e⟩ 0))))))]) ⟨(or_sum (loop_sum spec_pure.hok (by kernel_rfl) (by kernel_rfl) (l := []) trivial spec_pure.sh4 spec_pure.os4 (by kernel_rfl) spec_pure.t4 spec_pure.t4_ok) (or_sum (loop_sum spec_pure.hok (by kernel_rfl) (by kernel_rfl) (l := []) trivial spec_pure.sh4b spec_pure.os4b (by kernel_rfl) spec_pure.t4b spec_pure.t4b_ok) (or_sum (loop_sum spec_pure.hok (by kernel_rfl) (by kernel_rfl) (l := []) trivial spec_pure.sh4c spec_pure.os4c (by kernel_rfl) spec_pure.t4c spec_pure.t4c_ok) (or_sum (loop_sum spec_pure.hok (by kernel_rfl) (by kernel_rfl) (l := []) trivial spec_pure.sh4d spec_pure.os4d (by kernel_rfl) spec_pure.t4d spec_pure.t4d_ok) (loop_sum spec_pure.hok (by kernel_rfl) (by kernel_rfl) (l := []) trivial spec_pure.sh4e spec_pure.os4e (by kernel_rfl) spec_pure.t4e spec_pure.t4e_ok))))), trivial⟩) (fun _ => rfl) spec_pure.ok
noncomputable def bursarref16_in.f (a : (Int × (Int × Int))) : Option Bool := (bif (decide ((a.2.1 ≤ a.1))) then (some (decide ((a.1 ≤ a.2.2)))) else (some false))
noncomputable def bursarref16_Of.f (a : Int) : Option (Int × (Int × Int)) := (bif (a == (2 : Int)) then (some ((1 : Int), ((2 : Int), (19 : Int)))) else (bif (a == (3 : Int)) then (some ((1 : Int), ((0 : Int), (6 : Int)))) else (bif (a == (11 : Int)) then (some ((1 : Int), ((0 : Int), (6 : Int)))) else (bif (a == (12 : Int)) then (some ((1 : Int), ((0 : Int), (6 : Int)))) else (bif (a == (73 : Int)) then (some ((1 : Int), ((0 : Int), (6 : Int)))) else (((bursarref16_in.f (a, ((4 : Int), (6 : Int))))).bind fun x1 => (bif x1 then (some ((1 : Int), ((0 : Int), (12 : Int)))) else (((bursarref16_in.f (a, ((82 : Int), (85 : Int))))).bind fun x2 => (bif x2 then (some ((1 : Int), ((0 : Int), (12 : Int)))) else (bif (a == (7 : Int)) then (some ((1 : Int), ((0 : Int), (10 : Int)))) else (((bursarref16_in.f (a, ((74 : Int), (81 : Int))))).bind fun x3 => (bif x3 then (some ((1 : Int), ((0 : Int), (10 : Int)))) else (((bursarref16_in.f (a, ((8 : Int), (10 : Int))))).bind fun x4 => (bif x4 then (some ((1 : Int), ((0 : Int), (8 : Int)))) else (((bursarref16_in.f (a, ((13 : Int), (18 : Int))))).bind fun x5 => (bif x5 then (some ((1 : Int), ((0 : Int), (4 : Int)))) else (bif (a == (71 : Int)) then (some ((1 : Int), ((0 : Int), (4 : Int)))) else (bif (a == (72 : Int)) then (some ((1 : Int), ((0 : Int), (4 : Int)))) else (((bursarref16_in.f (a, ((19 : Int), (24 : Int))))).bind fun x6 => (bif x6 then (some ((1 : Int), ((0 : Int), (3 : Int)))) else (((bursarref16_in.f (a, ((68 : Int), (70 : Int))))).bind fun x7 => (bif x7 then (some ((1 : Int), ((0 : Int), (3 : Int)))) else (bif (a == (25 : Int)) then (some ((1 : Int), ((0 : Int), (2 : Int)))) else (bif (a == (26 : Int)) then (some ((1 : Int), ((0 : Int), (2 : Int)))) else (bif (a == (67 : Int)) then (some ((1 : Int), ((0 : Int), (2 : Int)))) else (bif (a == (27 : Int)) then (some ((1 : Int), ((0 : Int), (1 : Int)))) else (bif (a == (66 : Int)) then (some ((1 : Int), ((0 : Int), (1 : Int)))) else (((bursarref16_in.f (a, ((28 : Int), (31 : Int))))).bind fun x8 => (bif x8 then (some ((2 : Int), ((0 : Int), (9 : Int)))) else (bif (a == (32 : Int)) then (some ((1 : Int), ((2 : Int), (11 : Int)))) else (bif (a == (33 : Int)) then (some ((1 : Int), ((2 : Int), (11 : Int)))) else (bif (a == (99 : Int)) then (some ((1 : Int), ((2 : Int), (11 : Int)))) else (bif (a == (100 : Int)) then (some ((1 : Int), ((2 : Int), (11 : Int)))) else (bif (a == (34 : Int)) then (some ((2 : Int), ((2 : Int), (28 : Int)))) else (bif (a == (35 : Int)) then (some ((3 : Int), ((2 : Int), (37 : Int)))) else (bif (a == (36 : Int)) then (some ((3 : Int), ((3 : Int), (104 : Int)))) else (bif (a == (37 : Int)) then (some ((2 : Int), ((0 : Int), (12 : Int)))) else (bif (a == (38 : Int)) then (some ((2 : Int), ((0 : Int), (6 : Int)))) else (bif (a == (39 : Int)) then (some ((2 : Int), ((0 : Int), (2 : Int)))) else (bif (a == (92 : Int)) then (some ((2 : Int), ((0 : Int), (2 : Int)))) else (bif (a == (40 : Int)) then (some ((2 : Int), ((0 : Int), (3 : Int)))) else (((bursarref16_in.f (a, ((49 : Int), (51 : Int))))).bind fun x9 => (bif x9 then (some ((2 : Int), ((0 : Int), (3 : Int)))) else (bif (a == (41 : Int)) then (some ((3 : Int), ((0 : Int), (8 : Int)))) else (bif (a == (42 : Int)) then (some ((3 : Int), ((0 : Int), (15 : Int)))) else (bif (a == (43 : Int)) then (some ((3 : Int), ((0 : Int), (40 : Int)))) else (bif (a == (44 : Int)) then (some ((3 : Int), ((2 : Int), (25 : Int)))) else (bif (a == (45 : Int)) then (some ((3 : Int), ((2 : Int), (76 : Int)))) else (((bursarref16_in.f (a, ((46 : Int), (48 : Int))))).bind fun x10 => (bif x10 then (some ((3 : Int), ((3 : Int), (999 : Int)))) else (((bursarref16_in.f (a, ((55 : Int), (63 : Int))))).bind fun x11 => (bif x11 then (some ((3 : Int), ((3 : Int), (999 : Int)))) else (((bursarref16_in.f (a, ((105 : Int), (127 : Int))))).bind fun x12 => (bif x12 then (some ((3 : Int), ((3 : Int), (999 : Int)))) else (bif (a == (52 : Int)) then (some ((4 : Int), ((0 : Int), (8 : Int)))) else (bif (a == (64 : Int)) then (some ((4 : Int), ((0 : Int), (8 : Int)))) else (bif (a == (96 : Int)) then (some ((4 : Int), ((0 : Int), (8 : Int)))) else (bif (a == (128 : Int)) then (some ((4 : Int), ((0 : Int), (8 : Int)))) else (bif (a == (53 : Int)) then (some ((1 : Int), ((0 : Int), (16 : Int)))) else (((bursarref16_in.f (a, ((86 : Int), (89 : Int))))).bind fun x13 => (bif x13 then (some ((1 : Int), ((0 : Int), (16 : Int)))) else (bif (a == (54 : Int)) then (some ((2 : Int), ((3 : Int), (120 : Int)))) else (bif (a == (90 : Int)) then (some ((1 : Int), ((0 : Int), (42 : Int)))) else (bif (a == (91 : Int)) then (some ((2 : Int), ((0 : Int), (1 : Int)))) else (bif (a == (93 : Int)) then (some ((2 : Int), ((0 : Int), (5 : Int)))) else (bif (a == (94 : Int)) then (some ((2 : Int), ((0 : Int), (7 : Int)))) else (bif (a == (95 : Int)) then (some ((2 : Int), ((0 : Int), (42 : Int)))) else (bif (a == (97 : Int)) then (some ((2 : Int), ((0 : Int), (17 : Int)))) else (bif (a == (98 : Int)) then (some ((3 : Int), ((0 : Int), (25 : Int)))) else (bif (a == (101 : Int)) then (some ((3 : Int), ((2 : Int), (17 : Int)))) else (bif (a == (102 : Int)) then (some ((3 : Int), ((2 : Int), (28 : Int)))) else (bif (a == (103 : Int)) then (some ((3 : Int), ((2 : Int), (28 : Int)))) else (bif (a == (104 : Int)) then (some ((3 : Int), ((3 : Int), (100 : Int)))) else (some ((0 : Int), ((0 : Int), (0 : Int)))))))))))))))))))))))))))))))))))))))))))))))))))))))))))))))))))))))))))))
noncomputable def bursarref16_pure.l3_4 (s : (Int × (ByteArray × (Int × Int)))) : Option ((Int × (ByteArray × (Int × (Int × Bool))))) := (bif (decide (((48 : Int) ≤ s.2.2.2))) then (some (s.1, (s.2.1, (s.2.2.1, (s.2.2.2, (decide ((s.2.2.2 ≤ (57 : Int))))))))) else (some (s.1, (s.2.1, (s.2.2.1, (s.2.2.2, false))))))
noncomputable def bursarref16_pure.l3_5 (s : (Int × (ByteArray × (Int × (Int × Bool))))) : Option ((Int × (ByteArray × (Int × (Int × (Bool × Bool)))))) := (bif (decide (((65 : Int) ≤ s.2.2.2.1))) then (bif (decide ((s.2.2.2.1 ≤ (90 : Int)))) then (some (s.1, (s.2.1, (s.2.2.1, (s.2.2.2.1, (s.2.2.2.2, true)))))) else (bif (decide (((97 : Int) ≤ s.2.2.2.1))) then (bif (decide ((s.2.2.2.1 ≤ (122 : Int)))) then (some (s.1, (s.2.1, (s.2.2.1, (s.2.2.2.1, (s.2.2.2.2, true)))))) else (some (s.1, (s.2.1, (s.2.2.1, (s.2.2.2.1, (s.2.2.2.2, (s.2.2.2.1 == (32 : Int))))))))) else (some (s.1, (s.2.1, (s.2.2.1, (s.2.2.2.1, (s.2.2.2.2, (s.2.2.2.1 == (32 : Int)))))))))) else (bif (decide (((97 : Int) ≤ s.2.2.2.1))) then (bif (decide ((s.2.2.2.1 ≤ (122 : Int)))) then (some (s.1, (s.2.1, (s.2.2.1, (s.2.2.2.1, (s.2.2.2.2, true)))))) else (some (s.1, (s.2.1, (s.2.2.1, (s.2.2.2.1, (s.2.2.2.2, (s.2.2.2.1 == (32 : Int))))))))) else (some (s.1, (s.2.1, (s.2.2.1, (s.2.2.2.1, (s.2.2.2.2, (s.2.2.2.1 == (32 : Int))))))))))
noncomputable def bursarref16_pure.l3_6 (s : (Int × (ByteArray × (Int × (Int × (Bool × Bool)))))) : Option ((Int × (ByteArray × (Int × (Bool × (Bool × Bool)))))) := (bif (decide (((32 : Int) ≤ s.2.2.2.1))) then (some (s.1, (s.2.1, (s.2.2.1, (s.2.2.2.2.1, (s.2.2.2.2.2, (decide ((s.2.2.2.1 ≤ (126 : Int)))))))))) else (some (s.1, (s.2.1, (s.2.2.1, (s.2.2.2.2.1, (s.2.2.2.2.2, false)))))))
noncomputable def bursarref16_pure.l3_7 (s : (Int × (ByteArray × (Int × (Bool × (Bool × Bool)))))) : Option ((Int × (ByteArray × (Int × Bool)))) := (bif (s.1 == (1 : Int)) then (bif (!s.2.2.2.1) then (some (s.1, (s.2.1, (s.2.2.1, true)))) else (bif (s.1 == (2 : Int)) then (bif (!s.2.2.2.1) then (bif (!s.2.2.2.2.1) then (some (s.1, (s.2.1, (s.2.2.1, true)))) else (bif (s.1 == (3 : Int)) then (some (s.1, (s.2.1, (s.2.2.1, (!s.2.2.2.2.2))))) else (some (s.1, (s.2.1, (s.2.2.1, false)))))) else (bif (s.1 == (3 : Int)) then (some (s.1, (s.2.1, (s.2.2.1, (!s.2.2.2.2.2))))) else (some (s.1, (s.2.1, (s.2.2.1, false)))))) else (bif (s.1 == (3 : Int)) then (some (s.1, (s.2.1, (s.2.2.1, (!s.2.2.2.2.2))))) else (some (s.1, (s.2.1, (s.2.2.1, false))))))) else (bif (s.1 == (2 : Int)) then (bif (!s.2.2.2.1) then (bif (!s.2.2.2.2.1) then (some (s.1, (s.2.1, (s.2.2.1, true)))) else (bif (s.1 == (3 : Int)) then (some (s.1, (s.2.1, (s.2.2.1, (!s.2.2.2.2.2))))) else (some (s.1, (s.2.1, (s.2.2.1, false)))))) else (bif (s.1 == (3 : Int)) then (some (s.1, (s.2.1, (s.2.2.1, (!s.2.2.2.2.2))))) else (some (s.1, (s.2.1, (s.2.2.1, false)))))) else (bif (s.1 == (3 : Int)) then (some (s.1, (s.2.1, (s.2.2.1, (!s.2.2.2.2.2))))) else (some (s.1, (s.2.1, (s.2.2.1, false)))))))
noncomputable def bursarref16_pure.t3 (s : (Int × (ByteArray × Int))) : Option ((Int × (ByteArray × Int)) ⊕ (Bool ⊕ Unit)) := (bif (decide ((s.2.2 < (s.2.1.size : Int)))) then (bif ((decide (((0 : Int) ≤ s.2.2))) && (decide ((s.2.2 < (s.2.1.size : Int))))) then (((bursarref16_pure.l3_4 (s.1, (s.2.1, (s.2.2, (bt s.2.1 (Int.toNat s.2.2))))))).bind fun x3 => (((bursarref16_pure.l3_5 x3)).bind fun x4 => (((bursarref16_pure.l3_6 x4)).bind fun x5 => (((bursarref16_pure.l3_7 x5)).bind fun x6 => (bif x6.2.2.2 then (some (.inr (.inl false))) else (some (.inl (x6.1, (x6.2.1, (IntKind.wrap .i64 (x6.2.2.1 + (1 : Int)))))))))))) else none) else (some (.inr (.inr ()))))
noncomputable def bursarref16_pure.l3 : (Int × (ByteArray × Int)) → Option (Bool ⊕ Unit) := rounds bursarref16_pure.t3
noncomputable def bursarref16_pure.f (a : (Int × ByteArray)) : Option Bool := (((bursarref16_pure.l3 (a.1, (a.2, (0 : Int))))).bind fun x2 => (match x2 with | .inl x3 => (some x3) | .inr x3 => (some true)))
end Go.Proofs.YtpoiijkodpnobaaGreatDoor
end
section
set_option linter.unusedVariables false
set_option linter.unusedSimpArgs false
namespace Go.Proofs.YtpoiijkodpnobaaGreatDoor
open Go Go.Fw
def okSpec (k v l : Int) : Bool := (decide (k = 0) && (decide (v = 0) && decide (l = 0))) || (decide (1 ≤ k) && (decide (k ≤ 4) && ((decide (v = 0) || (decide (v = 2) && decide (l ≤ 99)) || decide (v = 3)) && (decide (1 ≤ l) && decide (l ≤ 999)))))
noncomputable def tabCheck (n : Nat) : Bool := match bursarref16_Of.f (n : Int), spec_Of.f (n : Int) with
  | some (k, v, l), some ((k', v', l'), e) => (decide (k = k') && (decide (v = v') && decide (l = l'))) && (decide (e = bif decide (k = 0) then 7 else 0) && okSpec k v l)
  | _, _ => false
theorem tab_all : (List.range 129).all tabCheck = true := by kernel_rfl
theorem of_out {n : Int} (h : ¬ (0 ≤ n ∧ n ≤ 128)) : bursarref16_Of.f n = some (0, 0, 0) ∧ spec_Of.f n = some ((0, 0, 0), 7) := by
  constructor
  · have e : ∀ k : Int, 0 ≤ k → k ≤ 128 → (n == k) = false := fun k h0 h1 => by rw [beq_eq_false_iff_ne]; omega
    have i : ∀ lo hi : Int, 0 ≤ lo → hi ≤ 128 → bursarref16_in.f (n, lo, hi) = some false := fun lo hi h0 h1 => by
      unfold bursarref16_in.f
      by_cases hl : lo ≤ n
      · have : ¬ n ≤ hi := by omega
        simp [hl, this]
      · simp [hl]
    unfold bursarref16_Of.f
    simp [e, i]
  · unfold spec_Of.f
    by_cases h0 : n < 0
    · simp [h0]
    · have h1 : n > 128 := by omega
      simp [h0, h1]
theorem of_is (n : Int) : ∃ k v l : Int, bursarref16_Of.f n = some (k, v, l) ∧ spec_Of.f n = some ((k, v, l), bif decide (k = 0) then 7 else 0) ∧ okSpec k v l = true := by
  by_cases h : 0 ≤ n ∧ n ≤ 128
  · have := List.all_eq_true.1 tab_all n.toNat (List.mem_range.2 (by omega))
    unfold tabCheck at this
    rw [show ((n.toNat : Nat) : Int) = n by omega] at this
    split at this
    · rename_i k v l k' v' l' e h1 h2
      simp only [Bool.and_eq_true, decide_eq_true_eq] at this
      obtain ⟨⟨rfl, rfl, rfl⟩, rfl, h3⟩ := this
      exact ⟨k, v, l, h1, h2, h3⟩
    · cases this
  · obtain ⟨h1, h2⟩ := of_out h
    exact ⟨0, 0, 0, h1, h2, rfl⟩
def okN (c : UInt8) : Bool := decide (48 ≤ c.toNat) && decide (c.toNat ≤ 57)
def okA (c : UInt8) : Bool := okN c || (decide (65 ≤ c.toNat) && decide (c.toNat ≤ 90)) || (decide (97 ≤ c.toNat) && decide (c.toNat ≤ 122)) || decide (c.toNat = 32)
def okS (c : UInt8) : Bool := decide (32 ≤ c.toNat) && decide (c.toNat ≤ 126)
def okC (k : Int) (c : UInt8) : Bool := bif k == 1 then okN c else bif k == 2 then okA c else bif k == 3 then okS c else true
theorem or32 : (List.range 256).all (fun c => (decide (97 ≤ bitsOp .or .u8 (c : Int) 32) && decide (bitsOp .or .u8 (c : Int) 32 ≤ 122)) == ((decide (65 ≤ c) && decide (c ≤ 90)) || (decide (97 ≤ c) && decide (c ≤ 122)))) = true := by kernel_rfl
theorem or32_is (c : UInt8) : (decide (97 ≤ bitsOp .or .u8 (c.toNat : Int) 32) && decide (bitsOp .or .u8 (c.toNat : Int) 32 ≤ 122)) = ((decide (65 ≤ c.toNat) && decide (c.toNat ≤ 90)) || (decide (97 ≤ c.toNat) && decide (c.toNat ≤ 122))) := by
  have := List.all_eq_true.1 or32 c.toNat (List.mem_range.2 c.toNat_lt)
  exact eq_of_beq this
theorem text_rounds {S R : Type} {t : S → Option (S ⊕ R)} (st : Nat → S) (s : ByteArray) (ok : UInt8 → Bool) (out fin : R)
    (h : ∀ i, i < s.size → t (st i) = some (bif ok (s.data.toList.getD i 0) then .inl (st (i + 1)) else .inr out)) (hf : t (st s.size) = some (.inr fin)) : rounds t (st 0) = some (bif s.data.toList.all ok then fin else out) := by
  have := rounds_all st (fun i => ok (s.data.toList.getD i 0)) out fin s.size h hf
  rw [this]
  have e := range_all ok 0 s.data.toList
  rw [show s.data.toList.length = s.size from rfl] at e
  rw [e]
theorem ge0 (i : Nat) : decide ((0 : Int) ≤ (i : Int)) = true := by simp
theorem pure_is {k v l : Int} {s : ByteArray} (hk : 1 ≤ k ∧ k ≤ 4) (hs : s.size < 9223372036854775807) : spec_pure.f ((k, v, l), s) = some (s.data.toList.all (okC k)) := by
  have hk : k = 1 ∨ k = 2 ∨ k = 3 ∨ k = 4 := by omega
  have lt : ∀ i, i < s.size → decide ((i : Int) < (s.size : Int)) = true := fun i hi => by simp only [decide_eq_true_eq]; omega
  have end' : decide ((s.size : Int) < (s.size : Int)) = false := by simp
  rcases hk with rfl | rfl | rfl | rfl
  · have hl : spec_pure.l4b (s, (s.size : Int), 0) = some (bif s.data.toList.all (okC 1) then .inr () else .inl false) := by
      refine text_rounds (t := spec_pure.t4b) (fun i => (s, (s.size : Int), (i : Int))) s (okC 1) (.inl false) (.inr ()) (fun i hi => ?_) ?_
      · simp only [spec_pure.t4b, lt i hi, ge0 i, Bool.true_and, Bool.and_true, Bool.and_self, cond_true, Int.toNat_natCast, wrap_up (show i < 9223372036854775807 by omega), bt]
        obtain ⟨c, hc⟩ : ∃ c, s.data.toList.getD i 0 = c := ⟨_, rfl⟩
        have e1 : decide ((c.toNat : Int) ≥ 48) = decide (48 ≤ c.toNat) := by rw [Bool.eq_iff_iff]; simp; omega
        have e2 : decide ((c.toNat : Int) ≤ 57) = decide (c.toNat ≤ 57) := by rw [Bool.eq_iff_iff]; simp; omega
        simp only [hc, okC, okN, e1, e2]
        cases decide (48 ≤ c.toNat) <;> cases decide (c.toNat ≤ 57) <;> rfl
      · simp [spec_pure.t4b]
    unfold spec_pure.f
    simp only [hl, show ((1 : Int) == 0) = false from rfl, show ((1 : Int) == 1) = true from rfl, cond_true, cond_false, Option.bind_some]
    cases s.data.toList.all (okC 1) <;> rfl
  · have hl : spec_pure.l4c (s, (s.size : Int), 0) = some (bif s.data.toList.all (okC 2) then .inr () else .inl false) := by
      refine text_rounds (t := spec_pure.t4c) (fun i => (s, (s.size : Int), (i : Int))) s (okC 2) (.inl false) (.inr ()) (fun i hi => ?_) ?_
      · simp only [spec_pure.t4c, lt i hi, ge0 i, Bool.true_and, Bool.and_true, Bool.and_self, cond_true, Int.toNat_natCast, wrap_up (show i < 9223372036854775807 by omega), bt]
        obtain ⟨c, hc⟩ : ∃ c, s.data.toList.getD i 0 = c := ⟨_, rfl⟩
        have h32 := or32_is c
        simp only [hc, okC, okA, okN, ge_iff_le, show ((2 : Int) == 1) = false from rfl, show ((2 : Int) == 2) = true from rfl, cond_true, cond_false]
        have e0 : ((c.toNat : Int) == 32) = decide (c.toNat = 32) := by rw [Bool.eq_iff_iff]; simp; omega
        have e1 : decide ((48 : Int) ≤ (c.toNat : Int)) = decide (48 ≤ c.toNat) := by rw [Bool.eq_iff_iff]; simp; omega
        have e2 : decide ((c.toNat : Int) ≤ 57) = decide (c.toNat ≤ 57) := by rw [Bool.eq_iff_iff]; simp; omega
        rw [e0, e1, e2]
        obtain ⟨a, ha⟩ : ∃ a, decide (48 ≤ c.toNat) = a := ⟨_, rfl⟩
        obtain ⟨b, hb⟩ : ∃ a, decide (c.toNat ≤ 57) = a := ⟨_, rfl⟩
        obtain ⟨d, hd⟩ : ∃ a, decide (c.toNat = 32) = a := ⟨_, rfl⟩
        obtain ⟨x, hx⟩ : ∃ a, decide (97 ≤ bitsOp .or .u8 (c.toNat : Int) 32) = a := ⟨_, rfl⟩
        obtain ⟨y, hy⟩ : ∃ a, decide (bitsOp .or .u8 (c.toNat : Int) 32 ≤ 122) = a := ⟨_, rfl⟩
        rw [hx, hy] at h32
        rw [ha, hb, hd, hx, hy, Bool.or_assoc (a && b), ← h32]
        cases a <;> cases b <;> cases d <;> cases x <;> cases y <;> rfl
      · simp [spec_pure.t4c]
    unfold spec_pure.f
    simp only [hl, show ((2 : Int) == 0) = false from rfl, show ((2 : Int) == 1) = false from rfl, show ((2 : Int) == 2) = true from rfl, cond_true, cond_false, Option.bind_some]
    cases s.data.toList.all (okC 2) <;> rfl
  · have hl : spec_pure.l4d (s, (s.size : Int), 0) = some (bif s.data.toList.all (okC 3) then .inr () else .inl false) := by
      refine text_rounds (t := spec_pure.t4d) (fun i => (s, (s.size : Int), (i : Int))) s (okC 3) (.inl false) (.inr ()) (fun i hi => ?_) ?_
      · simp only [spec_pure.t4d, lt i hi, ge0 i, Bool.true_and, Bool.and_true, Bool.and_self, cond_true, Int.toNat_natCast, wrap_up (show i < 9223372036854775807 by omega), bt]
        obtain ⟨c, hc⟩ : ∃ c, s.data.toList.getD i 0 = c := ⟨_, rfl⟩
        have e1 : decide ((c.toNat : Int) ≥ 32) = decide (32 ≤ c.toNat) := by rw [Bool.eq_iff_iff]; simp; omega
        have e2 : decide ((c.toNat : Int) ≤ 126) = decide (c.toNat ≤ 126) := by rw [Bool.eq_iff_iff]; simp; omega
        simp only [hc, okC, okS, e1, e2]
        cases decide (32 ≤ c.toNat) <;> cases decide (c.toNat ≤ 126) <;> rfl
      · simp [spec_pure.t4d]
    unfold spec_pure.f
    simp only [hl, show ((3 : Int) == 0) = false from rfl, show ((3 : Int) == 1) = false from rfl, show ((3 : Int) == 2) = false from rfl, show ((3 : Int) == 3) = true from rfl, cond_true, cond_false, Option.bind_some]
    cases s.data.toList.all (okC 3) <;> rfl
  · have hl : spec_pure.l4e (s, (s.size : Int), 0) = some () := by
      have := rounds_to (t := spec_pure.t4e) (fun i => (s, (s.size : Int), (i : Int))) s.size fun i hi => by
        simp only [spec_pure.t4e, lt i hi, ge0 i, Bool.true_and, Bool.and_true, Bool.and_self, cond_true, wrap_up (show i < 9223372036854775807 by omega)]
      show rounds spec_pure.t4e _ = _
      refine this.trans (rounds_end ?_)
      simp [spec_pure.t4e]
    unfold spec_pure.f
    simp only [hl, show ((4 : Int) == 0) = false from rfl, show ((4 : Int) == 1) = false from rfl, show ((4 : Int) == 2) = false from rfl, show ((4 : Int) == 3) = false from rfl, show ((4 : Int) == 4) = true from rfl, cond_true, cond_false, Option.bind_some]
    have : s.data.toList.all (okC 4) = true := by rw [List.all_eq_true]; intro x _; rfl
    rw [this]
theorem rp4 (k : Int) (s : ByteArray) (i n : Int) : bursarref16_pure.l3_4 (k, s, i, n) = some (k, s, i, n, decide (48 ≤ n) && decide (n ≤ 57)) := by
  simp only [bursarref16_pure.l3_4]
  cases decide (48 ≤ n) <;> rfl
theorem rp5 (k : Int) (s : ByteArray) (i n : Int) (b : Bool) : bursarref16_pure.l3_5 (k, s, i, n, b) = some (k, s, i, n, b, (decide (65 ≤ n) && decide (n ≤ 90)) || (decide (97 ≤ n) && decide (n ≤ 122)) || n == 32) := by
  simp only [bursarref16_pure.l3_5]
  cases decide (65 ≤ n) <;> cases decide (n ≤ 90) <;> cases decide (97 ≤ n) <;> cases decide (n ≤ 122) <;> rfl
theorem rp6 (k : Int) (s : ByteArray) (i n : Int) (b d : Bool) : bursarref16_pure.l3_6 (k, s, i, n, b, d) = some (k, s, i, b, d, decide (32 ≤ n) && decide (n ≤ 126)) := by
  simp only [bursarref16_pure.l3_6]
  cases decide (32 ≤ n) <;> rfl
theorem rp7 (k : Int) (s : ByteArray) (i : Int) (b d e : Bool) (hk : 1 ≤ k ∧ k ≤ 4) : bursarref16_pure.l3_7 (k, s, i, b, d, e) = some (k, s, i, !(bif k == 1 then b else bif k == 2 then b || d else bif k == 3 then e else true)) := by
  have hk : k = 1 ∨ k = 2 ∨ k = 3 ∨ k = 4 := by omega
  simp only [bursarref16_pure.l3_7]
  rcases hk with rfl | rfl | rfl | rfl <;> cases b <;> cases d <;> cases e <;> rfl
theorem okC_bt (k : Int) (c : UInt8) : okC k c = (bif k == 1 then decide ((48 : Int) ≤ (c.toNat : Int)) && decide ((c.toNat : Int) ≤ 57) else bif k == 2 then (decide ((48 : Int) ≤ (c.toNat : Int)) && decide ((c.toNat : Int) ≤ 57)) || ((decide ((65 : Int) ≤ (c.toNat : Int)) && decide ((c.toNat : Int) ≤ 90)) || (decide ((97 : Int) ≤ (c.toNat : Int)) && decide ((c.toNat : Int) ≤ 122)) || ((c.toNat : Int) == 32)) else bif k == 3 then decide ((32 : Int) ≤ (c.toNat : Int)) && decide ((c.toNat : Int) ≤ 126) else true) := by
  have e : ∀ a b : Nat, decide ((a : Int) ≤ (b : Int)) = decide (a ≤ b) := fun a b => by rw [Bool.eq_iff_iff]; simp
  have e0 : ((c.toNat : Int) == 32) = decide (c.toNat = 32) := by rw [Bool.eq_iff_iff]; simp; omega
  have e1 := e 48 c.toNat; have e2 := e c.toNat 57; have e3 := e 65 c.toNat; have e4 := e c.toNat 90; have e5 := e 97 c.toNat; have e6 := e c.toNat 122; have e7 := e 32 c.toNat; have e8 := e c.toNat 126
  simp only [Int.cast_ofNat_Int] at e1 e2 e3 e4 e5 e6 e7 e8
  simp only [okC, okA, okN, okS, e0, e1, e2, e3, e4, e5, e6, e7, e8, Bool.or_assoc]
theorem refpure_is {k : Int} {s : ByteArray} (hk : 1 ≤ k ∧ k ≤ 4) (hs : s.size < 9223372036854775807) : bursarref16_pure.f (k, s) = some (s.data.toList.all (okC k)) := by
  have lt : ∀ i, i < s.size → decide ((i : Int) < (s.size : Int)) = true := fun i hi => by simp only [decide_eq_true_eq]; omega
  have hl : bursarref16_pure.l3 (k, s, 0) = some (bif s.data.toList.all (okC k) then .inr () else .inl false) := by
    refine text_rounds (t := bursarref16_pure.t3) (fun i => (k, s, (i : Int))) s (okC k) (.inl false) (.inr ()) (fun i hi => ?_) ?_
    · simp only [bursarref16_pure.t3, lt i hi, ge0 i, Bool.true_and, Bool.and_true, Bool.and_self, cond_true, Int.toNat_natCast, wrap_up (show i < 9223372036854775807 by omega), bt, rp4, rp5, rp6, rp7 _ _ _ _ _ _ hk, Option.bind_some, okC_bt]
      obtain ⟨b, hb⟩ : ∃ b, (bif k == 1 then decide ((48 : Int) ≤ ((s.data.toList.getD i 0).toNat : Int)) && decide (((s.data.toList.getD i 0).toNat : Int) ≤ 57) else bif k == 2 then (decide ((48 : Int) ≤ ((s.data.toList.getD i 0).toNat : Int)) && decide (((s.data.toList.getD i 0).toNat : Int) ≤ 57)) || ((decide ((65 : Int) ≤ ((s.data.toList.getD i 0).toNat : Int)) && decide (((s.data.toList.getD i 0).toNat : Int) ≤ 90)) || (decide ((97 : Int) ≤ ((s.data.toList.getD i 0).toNat : Int)) && decide (((s.data.toList.getD i 0).toNat : Int) ≤ 122)) || (((s.data.toList.getD i 0).toNat : Int) == 32)) else bif k == 3 then decide ((32 : Int) ≤ ((s.data.toList.getD i 0).toNat : Int)) && decide (((s.data.toList.getD i 0).toNat : Int) ≤ 126) else true) = b := ⟨_, rfl⟩
      rw [hb]
      cases b <;> rfl
    · simp [bursarref16_pure.t3]
  unfold bursarref16_pure.f
  simp only [hl, Option.bind_some]
  cases s.data.toList.all (okC k) <;> rfl
end Go.Proofs.YtpoiijkodpnobaaGreatDoor
end
section
set_option linter.unusedVariables false
set_option maxRecDepth 100000
namespace Go.Proofs.YtpoiijkodpnobaaGreatDoor
open Go Go.Fw
abbrev spec_Valid.As : Shs := (.cons (.x (.i .i64)) (.cons (.x .s) .nil))
abbrev spec_Valid.m : Back := [(false, .b)]
noncomputable abbrev spec_Valid.H : HK := hk P G1 E0 J0 [spec_Of.row, spec_pure.row] noLoops 4
theorem spec_Valid.rows : TabOK P G1 (tabF [spec_Of.row, spec_pure.row]) := rows_ok (ws := [spec_Of.row, spec_pure.row]) ⟨spec_Of.row_ok, ⟨(spec_pure.row_ok.more g01), trivial⟩⟩
theorem spec_Valid.hok : HKOK P spec_Valid.H := hk_ok e0_ok j0_ok spec_Valid.rows (fun g n => noLoops_ok g n) 4
noncomputable def spec_Valid.f (a : (Int × ByteArray)) : Option Bool := (((spec_Of.f a.1)).bind fun x2 => (bif ((a.2.size : Int) == x2.1.2.2) then (bif (x2.2 == (0 : Int)) then (((spec_pure.f (x2.1, a.2))).bind fun x3 => (some x3)) else (some false)) else (bif (decide ((x2.1.2.1 > (0 : Int)))) then (bif (x2.2 == (0 : Int)) then (bif (decide (((a.2.size : Int) < x2.1.2.2))) then (((spec_pure.f (x2.1, a.2))).bind fun x3 => (some x3)) else (some false)) else (some false)) else (bif (x2.2 == (0 : Int)) then (some false) else (some false)))))
theorem spec_Valid.ok : ∀ a : Vals spec_Valid.As.tys, fnK P spec_Valid.H (lp []) 170 spec_Valid.As spec_Valid.m a some = spec_Valid.f a := fun a => by kernel_rfl
noncomputable abbrev spec_Valid.row : Row := fnRow 170 spec_Valid.As spec_Valid.m spec_Valid.f
theorem spec_Valid.row_ok : RowOK P G1 spec_Valid.row := row_told spec_Valid.hok (lp_of (l := []) trivial) (fun _ => rfl) spec_Valid.ok
abbrev spec_Pack.As : Shs := (.cons (.x (.i .i64)) (.cons (.x .s) .nil))
abbrev spec_Pack.m : Back := [(false, .s), (false, (.i .i64))]
noncomputable abbrev spec_Pack.H : HK := hk P G1 E0 J0 [strconv_Itoa.row, spec_Of.row, spec_Valid.row] noLoops 4
theorem spec_Pack.rows : TabOK P G1 (tabF [strconv_Itoa.row, spec_Of.row, spec_Valid.row]) := rows_ok (ws := [strconv_Itoa.row, spec_Of.row, spec_Valid.row]) ⟨(strconv_Itoa.row_ok.more g01), ⟨spec_Of.row_ok, ⟨spec_Valid.row_ok, trivial⟩⟩⟩
theorem spec_Pack.hok : HKOK P spec_Pack.H := hk_ok e0_ok j0_ok spec_Pack.rows (fun g n => noLoops_ok g n) 4
noncomputable def spec_Pack.f (a : (Int × ByteArray)) : Option (ByteArray × Int) := (((spec_Of.f a.1)).bind fun x2 => (bif (x2.2 != (0 : Int)) then (some ((bs []), x2.2)) else (((spec_Valid.f a)).bind fun x3 => (bif (!x3) then (some ((bs []), (16 : Int))) else (((strconv_Itoa.f (IntKind.wrap .i64 ((1000 : Int) + (a.2.size : Int))))).bind fun x4 => (bif ((decide (((0 : Int) ≤ (IntKind.wrap .i64 ((4 : Int) - x2.1.2.1))))) && (decide (((IntKind.wrap .i64 ((4 : Int) - x2.1.2.1)) ≤ (x4.size : Int))))) then (bif (Nat.ble ((ByteArray.extract x4 (Int.toNat (IntKind.wrap .i64 ((4 : Int) - x2.1.2.1))) x4.size).size + a.2.size) 9223372036854775807) then (some (((ByteArray.extract x4 (Int.toNat (IntKind.wrap .i64 ((4 : Int) - x2.1.2.1))) x4.size) ++ a.2), (0 : Int))) else none) else none))))))
theorem spec_Pack.ok : ∀ a : Vals spec_Pack.As.tys, fnK P spec_Pack.H (lp []) 139 spec_Pack.As spec_Pack.m a some = spec_Pack.f a := fun a => by kernel_rfl
noncomputable abbrev spec_Pack.row : Row := fnRow 139 spec_Pack.As spec_Pack.m spec_Pack.f
theorem spec_Pack.row_ok : RowOK P G1 spec_Pack.row := row_told spec_Pack.hok (lp_of (l := []) trivial) (fun _ => rfl) spec_Pack.ok
noncomputable def bursarref16_Valid.f (a : (Int × ByteArray)) : Option Bool := (((bursarref16_Of.f a.1)).bind fun x2 => (bif (x2.1 == (0 : Int)) then (some false) else (bif (decide (((a.2.size : Int) > x2.2.2))) then (some false) else (bif (x2.2.1 == (0 : Int)) then (bif (decide (((a.2.size : Int) < x2.2.2))) then (some false) else (((bursarref16_pure.f (x2.1, a.2))).bind fun x3 => (some x3))) else (((bursarref16_pure.f (x2.1, a.2))).bind fun x3 => (some x3))))))
noncomputable def bursarref16_digits.t4 (s : (Int × (Int × (ByteArray × Int)))) : Option ((Int × (Int × (ByteArray × Int))) ⊕ (ByteArray)) := (bif (decide ((s.2.2.2 < s.2.1))) then (bif (Nat.ble ((ByteArray.mk (List.toArray (List.map (fun y4 => (UInt8.ofNat (Int.toNat y4))) ((IntKind.wrap .u8 (IntKind.wrap .i64 ((48 : Int) + (Int.tmod s.1 (10 : Int))))) :: [])))).size + s.2.2.1.size) 9223372036854775807) then (some (.inl ((IntKind.wrap .i64 (Int.tdiv s.1 (10 : Int))), (s.2.1, (((ByteArray.mk (List.toArray (List.map (fun y4 => (UInt8.ofNat (Int.toNat y4))) ((IntKind.wrap .u8 (IntKind.wrap .i64 ((48 : Int) + (Int.tmod s.1 (10 : Int))))) :: [])))) ++ s.2.2.1), (IntKind.wrap .i64 (s.2.2.2 + (1 : Int)))))))) else none) else (some (.inr s.2.2.1)))
noncomputable def bursarref16_digits.l4 : (Int × (Int × (ByteArray × Int))) → Option (ByteArray) := rounds bursarref16_digits.t4
noncomputable def bursarref16_digits.f (a : (Int × Int)) : Option ByteArray := (((bursarref16_digits.l4 (a.1, (a.2, ((bs []), (0 : Int)))))).bind fun x2 => (some x2))
noncomputable def bursarref16_Pack.f (a : (Int × ByteArray)) : Option (ByteArray × Int) := (((bursarref16_Of.f a.1)).bind fun x2 => (bif (x2.1 == (0 : Int)) then (some ((bs []), (7 : Int))) else (((bursarref16_Valid.f a)).bind fun x3 => (bif (!x3) then (some ((bs []), (16 : Int))) else (((bursarref16_digits.f ((a.2.size : Int), x2.2.1))).bind fun x4 => (bif (Nat.ble (x4.size + a.2.size) 9223372036854775807) then (some ((x4 ++ a.2), (0 : Int))) else none))))))
end Go.Proofs.YtpoiijkodpnobaaGreatDoor
end
section
set_option linter.unusedVariables false
set_option linter.unusedSimpArgs false
namespace Go.Proofs.YtpoiijkodpnobaaGreatDoor
open Go Go.Fw
def mayF (k v l : Int) (s : List UInt8) : Bool := !decide (k = 0) && (decide ((s.length : Int) ≤ l) && (!(decide (v = 0) && decide ((s.length : Int) < l)) && s.all (okC k)))
theorem okSpec_is {k v l : Int} (h : okSpec k v l = true) : (k = 0 ∧ v = 0 ∧ l = 0) ∨ (1 ≤ k ∧ k ≤ 4 ∧ (v = 0 ∨ (v = 2 ∧ l ≤ 99) ∨ v = 3) ∧ 1 ≤ l ∧ l ≤ 999) := by
  simp only [okSpec, Bool.or_eq_true, Bool.and_eq_true, decide_eq_true_eq] at h
  omega
theorem refValid_is {n k v l : Int} {s : List UInt8} (hR : bursarref16_Of.f n = some (k, v, l)) (hk : okSpec k v l = true) (hs : s.length ≤ 5000) : bursarref16_Valid.f (n, bs s) = some (mayF k v l s) := by
  unfold bursarref16_Valid.f
  simp only [hR, Option.bind_some, bs_size]
  rcases okSpec_is hk with ⟨rfl, rfl, rfl⟩ | ⟨h1, h2, h3, h4, h5⟩
  · simp [mayF]
  · have hp := refpure_is (k := k) (s := bs s) ⟨h1, h2⟩ (by rw [bs_size]; omega)
    rw [bs_list] at hp
    have e : (k == 0) = false := by rw [beq_eq_false_iff_ne]; omega
    have e' : decide (k = 0) = false := decide_eq_false (by omega)
    simp only [e, cond_false, hp, Option.bind_some, mayF, e', Bool.not_false, Bool.true_and]
    by_cases hl : (s.length : Int) > l
    · have : ¬ (s.length : Int) ≤ l := by omega
      simp [hl, this]
    · have : (s.length : Int) ≤ l := by omega
      by_cases hv : v = 0
      · subst hv
        by_cases hlt : (s.length : Int) < l
        · simp [hl, this, hlt]
        · simp [hl, this, hlt]
      · have hb : (v == 0) = false := by simpa using hv
        simp [hl, this, hv, hb]
theorem valid_is {n k v l : Int} {s : List UInt8} (hO : spec_Of.f n = some ((k, v, l), bif decide (k = 0) then 7 else 0)) (hk : okSpec k v l = true) (hs : s.length ≤ 5000) : spec_Valid.f (n, bs s) = some (mayF k v l s) := by
  unfold spec_Valid.f
  simp only [hO, Option.bind_some, bs_size]
  rcases okSpec_is hk with ⟨rfl, rfl, rfl⟩ | ⟨h1, h2, h3, h4, h5⟩
  · cases h : ((s.length : Int) == 0) <;> simp [mayF, h]
  · have hp := pure_is (k := k) (v := v) (l := l) (s := bs s) ⟨h1, h2⟩ (by rw [bs_size]; omega)
    rw [bs_list] at hp
    have e' : decide (k = 0) = false := decide_eq_false (by omega)
    simp only [hp, Option.bind_some, mayF, e', Bool.not_false, Bool.true_and, cond_false, show ((0 : Int) == 0) = true from rfl, cond_true]
    by_cases he : (s.length : Int) = l
    · simp [he]
    · have hb : ((s.length : Int) == l) = false := by simpa using he
      simp only [hb, cond_false]
      by_cases hv : v > 0
      · have hv0 : ¬ v = 0 := by omega
        by_cases hlt : (s.length : Int) < l
        · have : (s.length : Int) ≤ l := by omega
          simp [hv, hlt, this, hv0]
        · have : ¬ (s.length : Int) ≤ l := by omega
          simp [hv, hlt, this]
      · have hv0 : v = 0 := by omega
        subst hv0
        by_cases hlt : (s.length : Int) < l
        · simp [hlt]
        · have : ¬ (s.length : Int) ≤ l := by omega
          simp [this]
def digs (v : Int) (n : Nat) : List UInt8 := bif decide (v = 2) then [dgt (n / 10 % 10), dgt (n % 10)] else bif decide (v = 3) then [dgt (n / 100 % 10), dgt (n / 10 % 10), dgt (n % 10)] else []
theorem digs_len {v : Int} (hv : v = 0 ∨ v = 2 ∨ v = 3) (n : Nat) : ((digs v n).length : Int) = v := by rcases hv with rfl | rfl | rfl <;> rfl
theorem itoa_all : (List.range 1000).all (fun n => decide (itoaI ((1000 : Int) + (n : Int)) = [dgt 1, dgt (n / 100 % 10), dgt (n / 10 % 10), dgt (n % 10)])) = true := by kernel_rfl
theorem itoa_is {n : Nat} (h : n ≤ 999) : itoaI ((1000 : Int) + (n : Int)) = [dgt 1, dgt (n / 100 % 10), dgt (n / 10 % 10), dgt (n % 10)] := of_decide_eq_true (List.all_eq_true.1 itoa_all n (List.mem_range.2 (by omega)))
theorem digit_step {x : Nat} {d : List UInt8} (hx : x < 1000) (hd : d.length ≤ 10) (v i : Int) (hi : 0 ≤ i) (hi' : i < v) (hv : v ≤ 10) : bursarref16_digits.t4 ((x : Int), v, bs d, i) = some (.inl (((x / 10 : Nat) : Int), v, bs (dgt (x % 10) :: d), i + 1)) := by
  have e1 : Int.tmod (x : Int) 10 = ((x % 10 : Nat) : Int) := by rw [Int.tmod_eq_emod_of_nonneg (by omega)]; rfl
  have e2 : Int.tdiv (x : Int) 10 = ((x / 10 : Nat) : Int) := by rw [Int.tdiv_eq_ediv_of_nonneg (by omega)]; rfl
  have w1 : IntKind.wrap .i64 ((48 : Int) + ((x % 10 : Nat) : Int)) = ((48 + x % 10 : Nat) : Int) := by rw [wrap_i64 (by omega) (by omega)]; omega
  have w2 : IntKind.wrap .u8 ((48 + x % 10 : Nat) : Int) = ((48 + x % 10 : Nat) : Int) := by rw [wrap_u8]; omega
  have w3 : IntKind.wrap .i64 ((x / 10 : Nat) : Int) = ((x / 10 : Nat) : Int) := wrap_i64 (by omega) (by omega)
  have w4 : IntKind.wrap .i64 (i + 1) = i + 1 := wrap_i64 (by omega) (by omega)
  have hb : ByteArray.mk (List.toArray (List.map (fun y4 => UInt8.ofNat (Int.toNat y4)) [((48 + x % 10 : Nat) : Int)])) = bs [dgt (x % 10)] := rfl
  unfold bursarref16_digits.t4
  simp only [e1, e2, w1, w2, w3, w4, decide_eq_true hi', cond_true, hb, bs_size, bs_append]
  rw [Nat.ble_eq_true_of_le (by simp; omega)]
  rfl
theorem digits16_is {v : Int} (hv : v = 0 ∨ v = 2 ∨ v = 3) {n : Nat} (hn : n ≤ 999) : bursarref16_digits.f ((n : Int), v) = some (bs (digs v n)) := by
  unfold bursarref16_digits.f bursarref16_digits.l4
  have fin : ∀ (x : Int) (d : List UInt8) (v : Int), bursarref16_digits.t4 (x, v, bs d, v) = some (.inr (bs d)) := fun x d v => by simp [bursarref16_digits.t4]
  rcases hv with rfl | rfl | rfl
  · rw [rounds_end (fin _ [] 0)]; rfl
  · rw [rounds_next (digit_step (x := n) (d := []) (by omega) (by simp) 2 0 (by omega) (by omega) (by omega)), rounds_next (digit_step (x := n / 10) (d := _) (by omega) (by simp) 2 (0 + 1) (by omega) (by omega) (by omega)), show (0 : Int) + 1 + 1 = 2 from rfl, rounds_end (fin _ _ 2)]
    rfl
  · rw [rounds_next (digit_step (x := n) (d := []) (by omega) (by simp) 3 0 (by omega) (by omega) (by omega)), rounds_next (digit_step (x := n / 10) (d := _) (by omega) (by simp) 3 (0 + 1) (by omega) (by omega) (by omega)), rounds_next (digit_step (x := n / 10 / 10) (d := _) (by omega) (by simp) 3 (0 + 1 + 1) (by omega) (by omega) (by omega)), show (0 : Int) + 1 + 1 + 1 = 3 from rfl, rounds_end (fin _ _ 3)]
    simp only [Option.bind_some, digs]
    rw [show n / 10 / 10 = n / 100 by omega]
    rfl
theorem mayF_len {k v l : Int} {s : List UInt8} (hk : okSpec k v l = true) (h : mayF k v l s = true) : 1 ≤ k ∧ k ≤ 4 ∧ (v = 0 ∨ v = 2 ∨ v = 3) ∧ (s.length : Int) ≤ l ∧ s.length ≤ 999 ∧ (v = 2 → s.length ≤ 99) ∧ (v = 0 → (s.length : Int) = l) ∧ s.all (okC k) = true := by
  simp only [mayF, Bool.and_eq_true, Bool.not_eq_true', decide_eq_false_iff_not, Bool.and_eq_false_iff, decide_eq_true_eq] at h
  obtain ⟨h0, h1, h2, h3⟩ := h
  rcases okSpec_is hk with ⟨rfl, _⟩ | ⟨g1, g2, g3, g4, g5⟩
  · exact absurd rfl h0
  · refine ⟨g1, g2, by omega, h1, by omega, by omega, fun hv => ?_, h3⟩
    rcases h2 with h2 | h2
    · exact absurd hv h2
    · omega
theorem refPack_is {n k v l : Int} {s : List UInt8} (hR : bursarref16_Of.f n = some (k, v, l)) (hk : okSpec k v l = true) (hs : s.length ≤ 5000) :
    bursarref16_Pack.f (n, bs s) = some (bif decide (k = 0) then (bs [], 7) else bif mayF k v l s then (bs (digs v s.length ++ s), 0) else (bs [], 16)) := by
  unfold bursarref16_Pack.f
  simp only [hR, Option.bind_some, refValid_is hR hk hs]
  by_cases h0 : k = 0
  · subst h0; rfl
  · have e : (k == 0) = false := by rw [beq_eq_false_iff_ne]; exact h0
    simp only [e, cond_false, decide_eq_false h0]
    cases hm : mayF k v l s
    · rfl
    · obtain ⟨_, _, h3, _, h5, _⟩ := mayF_len hk hm
      simp only [Bool.not_true, cond_false, cond_true, bs_size, digits16_is h3 h5, Option.bind_some, bs_append]
      have := digs_len h3 s.length
      rw [Nat.ble_eq_true_of_le (by omega)]
      rfl
theorem pack_is {n k v l : Int} {s : List UInt8} (hO : spec_Of.f n = some ((k, v, l), bif decide (k = 0) then 7 else 0)) (hk : okSpec k v l = true) (hs : s.length ≤ 5000) :
    spec_Pack.f (n, bs s) = some (bif decide (k = 0) then (bs [], 7) else bif mayF k v l s then (bs (digs v s.length ++ s), 0) else (bs [], 16)) := by
  unfold spec_Pack.f
  simp only [hO, Option.bind_some, valid_is hO hk hs]
  by_cases h0 : k = 0
  · subst h0; rfl
  · simp only [decide_eq_false h0, cond_false, show ((0 : Int) != 0) = false from rfl]
    cases hm : mayF k v l s
    · rfl
    · obtain ⟨_, _, h3, _, h5, _⟩ := mayF_len hk hm
      have w : IntKind.wrap .i64 ((1000 : Int) + (s.length : Int)) = (1000 : Int) + (s.length : Int) := wrap_i64 (by omega) (by omega)
      have w2 : IntKind.wrap .i64 ((4 : Int) - v) = 4 - v := wrap_i64 (by omega) (by omega)
      have it : strconv_Itoa.f ((1000 : Int) + (s.length : Int)) = some (bs [dgt 1, dgt (s.length / 100 % 10), dgt (s.length / 10 % 10), dgt (s.length % 10)]) := by
        unfold strconv_Itoa.f
        rw [decide_eq_true (by omega), decide_eq_true (by omega), itoa_is h5]
        rfl
      have le0 : decide ((0 : Int) ≤ 4 - v) = true := decide_eq_true (by omega)
      have le1 : decide (4 - v ≤ (([dgt 1, dgt (s.length / 100 % 10), dgt (s.length / 10 % 10), dgt (s.length % 10)] : List UInt8).length : Int)) = true := decide_eq_true (by simp only [List.length_cons, List.length_nil]; omega)
      simp only [Bool.not_true, cond_false, cond_true, bs_size, w, w2, it, Option.bind_some, le0, le1, Bool.and_self, bs_extract, bs_append]
      have cut : (([dgt 1, dgt (s.length / 100 % 10), dgt (s.length / 10 % 10), dgt (s.length % 10)] : List UInt8).take ([dgt 1, dgt (s.length / 100 % 10), dgt (s.length / 10 % 10), dgt (s.length % 10)] : List UInt8).length).drop (4 - v).toNat = digs v s.length := by
        rcases h3 with rfl | rfl | rfl <;> rfl
      have := digs_len h3 s.length
      rw [cut, Nat.ble_eq_true_of_le (by omega)]
      rfl
end Go.Proofs.YtpoiijkodpnobaaGreatDoor
end
section
set_option linter.unusedVariables false
set_option maxRecDepth 100000
namespace Go.Proofs.YtpoiijkodpnobaaGreatDoor
open Go Go.Fw
abbrev bitmap_bit.As : Shs := (.cons (.x (.i .i64)) .nil)
abbrev bitmap_bit.m : Back := [(false, (.i .i64)), (false, (.i .u8))]
noncomputable abbrev bitmap_bit.H : HK := hk P G0 E0 J0 [] noLoops 4
theorem bitmap_bit.rows : TabOK P G0 (tabF []) := rows_ok (ws := []) trivial
theorem bitmap_bit.hok : HKOK P bitmap_bit.H := hk_ok e0_ok j0_ok bitmap_bit.rows (fun g n => noLoops_ok g n) 4
noncomputable def bitmap_bit.f (a : Int) : Option (Int × Int) := (bif (decide (((Int.tmod (IntKind.wrap .i64 (a - (1 : Int))) (8 : Int)) < (0 : Int)))) then none else (some ((IntKind.wrap .i64 (Int.tdiv (IntKind.wrap .i64 (a - (1 : Int))) (8 : Int))), (Int.fdiv (128 : Int) ((2 : Int) ^ (Min.min (Int.toNat (Int.tmod (IntKind.wrap .i64 (a - (1 : Int))) (8 : Int))) 8))))))
theorem bitmap_bit.ok : ∀ a : Vals bitmap_bit.As.tys, fnK P bitmap_bit.H (lp []) 168 bitmap_bit.As bitmap_bit.m a some = bitmap_bit.f a := fun a => by kernel_rfl
noncomputable abbrev bitmap_bit.row : Row := fnRow 168 bitmap_bit.As bitmap_bit.m bitmap_bit.f
theorem bitmap_bit.row_ok : RowOK P G0 bitmap_bit.row := row_told bitmap_bit.hok (lp_of (l := []) trivial) (fun _ => rfl) bitmap_bit.ok
abbrev bitmap_may.As : Shs := (.cons (.x (.l (.i .i64))) .nil)
abbrev bitmap_may.m : Back := [(false, .b)]
noncomputable abbrev bitmap_may.H : HK := hk P G1 E0 J0 [spec_Of.row] noLoops 4
theorem bitmap_may.rows : TabOK P G1 (tabF [spec_Of.row]) := rows_ok (ws := [spec_Of.row]) ⟨spec_Of.row_ok, trivial⟩
theorem bitmap_may.hok : HKOK P bitmap_may.H := hk_ok e0_ok j0_ok bitmap_may.rows (fun g n => noLoops_ok g n) 4
noncomputable abbrev bitmap_may.sh3 : SSh := ⟨[(0, (.x (.l (.i .i64)))), (7, (.x (.l (.i .i64)))), (8, (.x (.i .i64))), (9, (.x (.i .i64)))], []⟩
noncomputable abbrev bitmap_may.os3 : PEnds := [(.ret, ⟨[(2, (.x .b))], []⟩), ((.exit 0), ⟨[], []⟩)]
noncomputable def bitmap_may.t3 (s : ((List Int) × ((List Int) × (Int × Int)))) : Option (((List Int) × ((List Int) × (Int × Int))) ⊕ (Bool ⊕ Unit)) := (bif (decide ((s.2.2.2 < s.2.2.1))) then (bif ((decide (((0 : Int) ≤ s.2.2.2))) && (decide ((s.2.2.2 < ((List.length s.2.1) : Int))))) then (((spec_Of.f (List.getD s.2.1 (Int.toNat s.2.2.2) (0 : Int)))).bind fun x4 => (bif (x4.2 != (0 : Int)) then (some (.inr (.inl false))) else (bif (decide ((s.2.2.2 > (0 : Int)))) then (bif ((decide (((0 : Int) ≤ (IntKind.wrap .i64 (s.2.2.2 - (1 : Int)))))) && (decide (((IntKind.wrap .i64 (s.2.2.2 - (1 : Int))) < ((List.length s.1) : Int))))) then (bif (decide (((List.getD s.1 (Int.toNat (IntKind.wrap .i64 (s.2.2.2 - (1 : Int)))) (0 : Int)) ≥ (List.getD s.2.1 (Int.toNat s.2.2.2) (0 : Int))))) then (some (.inr (.inl false))) else (some (.inl (s.1, (s.2.1, (s.2.2.1, (IntKind.wrap .i64 (s.2.2.2 + (1 : Int))))))))) else none) else (some (.inl (s.1, (s.2.1, (s.2.2.1, (IntKind.wrap .i64 (s.2.2.2 + (1 : Int))))))))))) else none) else (some (.inr (.inr ()))))
theorem bitmap_may.t3_ok : ∀ s : Vals bitmap_may.sh3.tys, turnK P bitmap_may.H (lp []) (bodyAt (codeOf P 167) 3) 0 bitmap_may.sh3 bitmap_may.os3 s some = bitmap_may.t3 s := fun s => by kernel_rfl
noncomputable def bitmap_may.l3 : ((List Int) × ((List Int) × (Int × Int))) → Option (Bool ⊕ Unit) := rounds bitmap_may.t3
noncomputable def bitmap_may.f (a : (List Int)) : Option Bool := (((bitmap_may.l3 (a, (a, (((List.length a) : Int), (0 : Int)))))).bind fun x1 => (match x1 with | .inl x2 => (some x2) | .inr x2 => (some true)))
theorem bitmap_may.ok : ∀ a : Vals bitmap_may.As.tys, fnK P bitmap_may.H (lp [(3, (NodeT.summ ⟨bitmap_may.sh3, bitmap_may.os3, bitmap_may.l3⟩ 0))]) 167 bitmap_may.As bitmap_may.m a some = bitmap_may.f a := fun a => by kernel_rfl
noncomputable abbrev bitmap_may.row : Row := fnRow 167 bitmap_may.As bitmap_may.m bitmap_may.f
theorem bitmap_may.row_ok : RowOK P G1 bitmap_may.row := row_told bitmap_may.hok (lp_of (l := [(3, (NodeT.summ ⟨bitmap_may.sh3, bitmap_may.os3, bitmap_may.l3⟩ 0))]) ⟨(loop_sum bitmap_may.hok (by kernel_rfl) (by kernel_rfl) (l := []) trivial bitmap_may.sh3 bitmap_may.os3 (by kernel_rfl) bitmap_may.t3 bitmap_may.t3_ok), trivial⟩) (fun _ => rfl) bitmap_may.ok
noncomputable def bursarref17_May.t3 (s : ((List Int) × Int)) : Option (((List Int) × Int) ⊕ (Bool ⊕ Unit)) := (bif (decide ((s.2 < ((List.length s.1) : Int)))) then (bif ((decide (((0 : Int) ≤ s.2))) && (decide ((s.2 < ((List.length s.1) : Int))))) then (((bursarref16_Of.f (List.getD s.1 (Int.toNat s.2) (0 : Int)))).bind fun x2 => (bif (x2.1 == (0 : Int)) then (some (.inr (.inl false))) else (bif (decide ((s.2 > (0 : Int)))) then (bif ((decide (((0 : Int) ≤ (IntKind.wrap .i64 (s.2 - (1 : Int)))))) && (decide (((IntKind.wrap .i64 (s.2 - (1 : Int))) < ((List.length s.1) : Int))))) then (bif ((decide (((0 : Int) ≤ s.2))) && (decide ((s.2 < ((List.length s.1) : Int))))) then (bif (decide (((List.getD s.1 (Int.toNat (IntKind.wrap .i64 (s.2 - (1 : Int)))) (0 : Int)) ≥ (List.getD s.1 (Int.toNat s.2) (0 : Int))))) then (some (.inr (.inl false))) else (some (.inl (s.1, (IntKind.wrap .i64 (s.2 + (1 : Int))))))) else none) else none) else (some (.inl (s.1, (IntKind.wrap .i64 (s.2 + (1 : Int))))))))) else none) else (some (.inr (.inr ()))))
noncomputable def bursarref17_May.l3 : ((List Int) × Int) → Option (Bool ⊕ Unit) := rounds bursarref17_May.t3
noncomputable def bursarref17_May.f (a : (List Int)) : Option Bool := (((bursarref17_May.l3 (a, (0 : Int)))).bind fun x1 => (match x1 with | .inl x2 => (some x2) | .inr x2 => (some true)))
end Go.Proofs.YtpoiijkodpnobaaGreatDoor
end
section
set_option linter.unusedVariables false
set_option linter.unusedSimpArgs false
namespace Go.Proofs.YtpoiijkodpnobaaGreatDoor
open Go Go.Fw
noncomputable def hasF (n : Int) : Bool := match bursarref16_Of.f n with
  | some x => !(x.1 == 0)
  | none => false
theorem hasF_is (n : Int) : ∃ k v l : Int, bursarref16_Of.f n = some (k, v, l) ∧ spec_Of.f n = some ((k, v, l), bif hasF n then 0 else 7) ∧ (k == 0) = !hasF n := by
  obtain ⟨k, v, l, h1, h2, h3⟩ := of_is n
  have e : hasF n = !(k == 0) := by unfold hasF; rw [h1]
  refine ⟨k, v, l, h1, ?_, by rw [e]; simp⟩
  rw [h2, e]
  by_cases h : k = 0
  · subst h; rfl
  · have hb : (k == 0) = false := by simpa using h
    rw [hb, decide_eq_false h]; rfl
theorem has_all : (List.range 129).all (fun n => !hasF (n : Int) || decide (2 ≤ n)) = true := by kernel_rfl
theorem hasF_bound {n : Int} (h : hasF n = true) : 2 ≤ n ∧ n ≤ 128 := by
  by_cases hn : 0 ≤ n ∧ n ≤ 128
  · have := List.all_eq_true.1 has_all n.toNat (List.mem_range.2 (by omega))
    rw [show ((n.toNat : Nat) : Int) = n by omega, h] at this
    simp only [Bool.not_true, Bool.false_or, decide_eq_true_eq] at this
    omega
  · have := (of_out hn).1
    unfold hasF at h
    rw [this] at h
    cases h
noncomputable def okAt (l : List Int) (i : Nat) : Bool := hasF (l.getD i 0) && (decide (i = 0) || decide (l.getD (i - 1) 0 < l.getD i 0))
noncomputable def mayL (l : List Int) : Bool := (List.range l.length).all (okAt l)
theorem may_is {l : List Int} (hl : l.length < 9223372036854775807) : bitmap_may.f l = some (mayL l) := by
  have hr : bitmap_may.l3 (l, l, (l.length : Int), 0) = some (bif mayL l then .inr () else .inl false) := by
    refine rounds_all (t := bitmap_may.t3) (fun i => (l, l, (l.length : Int), (i : Int))) (okAt l) (.inl false) (.inr ()) l.length (fun i hi => ?_) ?_
    · obtain ⟨k, v, len, h1, h2, h3⟩ := hasF_is (l.getD i 0)
      simp only [bitmap_may.t3, decide_eq_true (show (i : Int) < (l.length : Int) by omega), ge0 i, Bool.and_self, cond_true, Int.toNat_natCast, h2, Option.bind_some, wrap_up (show i < 9223372036854775807 by omega)]
      cases hf : hasF (l.getD i 0)
      · simp only [okAt, hf, Bool.false_and, cond_false]; rfl
      · simp only [okAt, hf, cond_true, Bool.true_and, show ((0 : Int) != 0) = false from rfl, cond_false]
        by_cases h0 : i = 0
        · subst h0; rfl
        · have w : IntKind.wrap .i64 ((i : Int) - 1) = ((i - 1 : Nat) : Int) := by rw [wrap_i64 (by omega) (by omega)]; omega
          simp only [decide_eq_true (show (i : Int) > 0 by omega), cond_true, w, ge0 (i - 1), decide_eq_true (show ((i - 1 : Nat) : Int) < (l.length : Int) by omega), Bool.and_self, Int.toNat_natCast, decide_eq_false h0, Bool.false_or]
          by_cases hlt : l.getD (i - 1) 0 < l.getD i 0
          · rw [decide_eq_false (show ¬ l.getD (i - 1) 0 ≥ l.getD i 0 by omega), decide_eq_true hlt]; rfl
          · rw [decide_eq_true (show l.getD (i - 1) 0 ≥ l.getD i 0 by omega), decide_eq_false hlt]; rfl
    · simp [bitmap_may.t3]
  unfold bitmap_may.f
  simp only [hr, Option.bind_some]
  cases mayL l <;> rfl
theorem refMay_is {l : List Int} (hl : l.length < 9223372036854775807) : bursarref17_May.f l = some (mayL l) := by
  have hr : bursarref17_May.l3 (l, 0) = some (bif mayL l then .inr () else .inl false) := by
    refine rounds_all (t := bursarref17_May.t3) (fun i => (l, (i : Int))) (okAt l) (.inl false) (.inr ()) l.length (fun i hi => ?_) ?_
    · obtain ⟨k, v, len, h1, h2, h3⟩ := hasF_is (l.getD i 0)
      simp only [bursarref17_May.t3, decide_eq_true (show (i : Int) < (l.length : Int) by omega), ge0 i, Bool.and_self, cond_true, Int.toNat_natCast, h1, Option.bind_some, h3, wrap_up (show i < 9223372036854775807 by omega)]
      cases hf : hasF (l.getD i 0)
      · simp only [okAt, hf, Bool.false_and, Bool.not_false, cond_true, cond_false]
      · simp only [okAt, hf, cond_true, Bool.true_and, Bool.not_true, cond_false]
        by_cases h0 : i = 0
        · subst h0; rfl
        · have w : IntKind.wrap .i64 ((i : Int) - 1) = ((i - 1 : Nat) : Int) := by rw [wrap_i64 (by omega) (by omega)]; omega
          simp only [decide_eq_true (show (i : Int) > 0 by omega), cond_true, w, ge0 (i - 1), decide_eq_true (show ((i - 1 : Nat) : Int) < (l.length : Int) by omega), Bool.and_self, Int.toNat_natCast, decide_eq_false h0, Bool.false_or]
          by_cases hlt : l.getD (i - 1) 0 < l.getD i 0
          · rw [decide_eq_false (show ¬ l.getD (i - 1) 0 ≥ l.getD i 0 by omega), decide_eq_true hlt]; rfl
          · rw [decide_eq_true (show l.getD (i - 1) 0 ≥ l.getD i 0 by omega), decide_eq_false hlt]; rfl
    · simp [bursarref17_May.t3]
  unfold bursarref17_May.f
  simp only [hr, Option.bind_some]
  cases mayL l <;> rfl
def bitN (v k : Nat) : Bool := decide (v / 2 ^ (7 - k) % 2 = 1)
theorem or_all : (List.range 256).all (fun v => (List.range 8).all fun k => (List.range 8).all fun j => bitN (bitsOp .or .u8 (v : Int) (Int.fdiv 128 (2 ^ (min k 8)))).toNat j == (decide (j = k) || bitN v j)) = true := by kernel_rfl
theorem or_bound : (List.range 256).all (fun v => (List.range 8).all fun k => decide (0 ≤ bitsOp .or .u8 (v : Int) (Int.fdiv 128 (2 ^ (min k 8)))) && decide (bitsOp .or .u8 (v : Int) (Int.fdiv 128 (2 ^ (min k 8))) < 256)) = true := by kernel_rfl
theorem bits_all : (List.range 256).all (fun v => decide (v = (List.range 8).foldl (fun c k => 2 * c + (bif bitN v k then 1 else 0)) 0)) = true := by kernel_rfl
end Go.Proofs.YtpoiijkodpnobaaGreatDoor
end
section
set_option linter.unusedVariables false
set_option maxRecDepth 100000
namespace Go.Proofs.YtpoiijkodpnobaaGreatDoor
open Go Go.Fw
abbrev bitmap_Map.As : Shs := (.cons (.x (.l (.i .i64))) .nil)
abbrev bitmap_Map.m : Back := [(false, .s), (false, (.i .i64))]
noncomputable abbrev bitmap_Map.H : HK := hk P G1 E0 J0 [bitmap_may.row, bitmap_bit.row] noLoops 4
theorem bitmap_Map.rows : TabOK P G1 (tabF [bitmap_may.row, bitmap_bit.row]) := rows_ok (ws := [bitmap_may.row, bitmap_bit.row]) ⟨bitmap_may.row_ok, ⟨(bitmap_bit.row_ok.more g01), trivial⟩⟩
theorem bitmap_Map.hok : HKOK P bitmap_Map.H := hk_ok e0_ok j0_ok bitmap_Map.rows (fun g n => noLoops_ok g n) 4
noncomputable abbrev bitmap_Map.sh11 : SSh := ⟨[(4, (.own 0 1)), (30, (.x (.l (.i .i64)))), (31, (.x (.i .i64))), (32, (.x (.i .i64)))], [.arr (.i .u8)]⟩
noncomputable abbrev bitmap_Map.os11 : PEnds := [((.exit 0), ⟨[(4, (.x (.l (.i .u8))))], []⟩)]
noncomputable def bitmap_Map.t11 (s : ((List Int) × (Int × (Int × (List Int))))) : Option (((List Int) × (Int × (Int × (List Int)))) ⊕ ((List Int))) := (bif (decide ((s.2.2.1 < s.2.1))) then (bif ((decide (((0 : Int) ≤ s.2.2.1))) && (decide ((s.2.2.1 < ((List.length s.1) : Int))))) then (((bitmap_bit.f (List.getD s.1 (Int.toNat s.2.2.1) (0 : Int)))).bind fun x4 => (bif ((decide (((0 : Int) ≤ x4.1))) && (decide ((x4.1 < ((List.length s.2.2.2) : Int))))) then (bif (true && (Nat.blt (0 + (Int.toNat x4.1)) (List.length s.2.2.2))) then (bif ((decide (((0 : Int) ≤ x4.1))) && (decide ((x4.1 < ((List.length s.2.2.2) : Int))))) then (bif (true && (Nat.blt (0 + (Int.toNat x4.1)) (List.length s.2.2.2))) then (some (.inl (s.1, (s.2.1, ((IntKind.wrap .i64 (s.2.2.1 + (1 : Int))), (List.set s.2.2.2 (0 + (Int.toNat x4.1)) (bitsOp Go.BinOp.or Go.IntKind.u8 (List.getD s.2.2.2 (0 + (Int.toNat x4.1)) (0 : Int)) x4.2))))))) else none) else none) else none) else none)) else none) else (some (.inr s.2.2.2)))
theorem bitmap_Map.t11_ok : ∀ s : Vals bitmap_Map.sh11.tys, turnK P bitmap_Map.H (lp []) (bodyAt (codeOf P 137) 11) 0 bitmap_Map.sh11 bitmap_Map.os11 s some = bitmap_Map.t11 s := fun s => by kernel_rfl
noncomputable def bitmap_Map.l11 : ((List Int) × (Int × (Int × (List Int)))) → Option ((List Int)) := rounds bitmap_Map.t11
noncomputable def bitmap_Map.f (a : (List Int)) : Option (ByteArray × Int) := (((bitmap_may.f a)).bind fun x1 => (bif (!x1) then (some ((bs []), (1 : Int))) else (bif (decide ((((List.length a) : Int) > (0 : Int)))) then (bif ((decide (((0 : Int) ≤ (IntKind.wrap .i64 (((List.length a) : Int) - (1 : Int)))))) && (decide (((IntKind.wrap .i64 (((List.length a) : Int) - (1 : Int))) < ((List.length a) : Int))))) then (bif (decide (((List.getD a (Int.toNat (IntKind.wrap .i64 (((List.length a) : Int) - (1 : Int)))) (0 : Int)) > (64 : Int)))) then (((bitmap_Map.l11 (a, (((List.length a) : Int), ((0 : Int), [(128 : Int), (0 : Int), (0 : Int), (0 : Int), (0 : Int), (0 : Int), (0 : Int), (0 : Int), (0 : Int), (0 : Int), (0 : Int), (0 : Int), (0 : Int), (0 : Int), (0 : Int), (0 : Int)]))))).bind fun x2 => (some ((ByteArray.mk (List.toArray (List.map (fun y3 => (UInt8.ofNat (Int.toNat y3))) x2))), (0 : Int)))) else (((bitmap_Map.l11 (a, (((List.length a) : Int), ((0 : Int), [(0 : Int), (0 : Int), (0 : Int), (0 : Int), (0 : Int), (0 : Int), (0 : Int), (0 : Int)]))))).bind fun x2 => (some ((ByteArray.mk (List.toArray (List.map (fun y3 => (UInt8.ofNat (Int.toNat y3))) x2))), (0 : Int))))) else none) else (((bitmap_Map.l11 (a, (((List.length a) : Int), ((0 : Int), [(0 : Int), (0 : Int), (0 : Int), (0 : Int), (0 : Int), (0 : Int), (0 : Int), (0 : Int)]))))).bind fun x2 => (some ((ByteArray.mk (List.toArray (List.map (fun y3 => (UInt8.ofNat (Int.toNat y3))) x2))), (0 : Int)))))))
theorem bitmap_Map.ok : ∀ a : Vals bitmap_Map.As.tys, fnK P bitmap_Map.H (lp [(11, (NodeT.summ ⟨bitmap_Map.sh11, bitmap_Map.os11, bitmap_Map.l11⟩ 0))]) 137 bitmap_Map.As bitmap_Map.m a some = bitmap_Map.f a := fun a => by kernel_rfl
noncomputable abbrev bitmap_Map.row : Row := fnRow 137 bitmap_Map.As bitmap_Map.m bitmap_Map.f
theorem bitmap_Map.row_ok : RowOK P G1 bitmap_Map.row := row_told bitmap_Map.hok (lp_of (l := [(11, (NodeT.summ ⟨bitmap_Map.sh11, bitmap_Map.os11, bitmap_Map.l11⟩ 0))]) ⟨(loop_sum bitmap_Map.hok (by kernel_rfl) (by kernel_rfl) (l := []) trivial bitmap_Map.sh11 bitmap_Map.os11 (by kernel_rfl) bitmap_Map.t11 bitmap_Map.t11_ok), trivial⟩) (fun _ => rfl) bitmap_Map.ok
end Go.Proofs.YtpoiijkodpnobaaGreatDoor
end
section
set_option linter.unusedVariables false
set_option linter.unusedSimpArgs false
namespace Go.Proofs.YtpoiijkodpnobaaGreatDoor
open Go Go.Fw
def orB (v k : Nat) : Nat := (bitsOp .or .u8 (v : Int) (Int.fdiv 128 (2 ^ (min k 8)))).toNat
theorem orB_is {v k : Nat} (hv : v < 256) (hk : k < 8) : bitsOp .or .u8 (v : Int) (Int.fdiv 128 (2 ^ (min k 8))) = (orB v k : Int) ∧ orB v k < 256 := by
  have := List.all_eq_true.1 (List.all_eq_true.1 or_bound v (List.mem_range.2 hv)) k (List.mem_range.2 hk)
  simp only [Bool.and_eq_true, decide_eq_true_eq] at this
  unfold orB
  omega
theorem orB_bit {v k j : Nat} (hv : v < 256) (hk : k < 8) (hj : j < 8) : bitN (orB v k) j = (decide (j = k) || bitN v j) :=
  eq_of_beq (List.all_eq_true.1 (List.all_eq_true.1 (List.all_eq_true.1 or_all v (List.mem_range.2 hv)) k (List.mem_range.2 hk)) j (List.mem_range.2 hj))
def stepB (b : List Nat) (n : Nat) : List Nat := b.set ((n - 1) / 8) (orB (b.getD ((n - 1) / 8) 0) ((n - 1) % 8))
abbrev ints (b : List Nat) : List Int := b.map fun (x : Nat) => (x : Int)
theorem ints_getD (b : List Nat) (j : Nat) : (ints b).getD j 0 = ((b.getD j 0 : Nat) : Int) := by
  simp only [List.getD_eq_getElem?_getD, List.getElem?_map]
  cases b[j]? <;> rfl
theorem bit_is {n : Nat} (h1 : 1 ≤ n) (h2 : n ≤ 1000) : bitmap_bit.f (n : Int) = some ((((n - 1) / 8 : Nat) : Int), Int.fdiv 128 (2 ^ (min ((n - 1) % 8) 8))) := by
  have w : IntKind.wrap .i64 ((n : Int) - 1) = ((n - 1 : Nat) : Int) := by rw [wrap_i64 (by omega) (by omega)]; omega
  have e1 : Int.tmod ((n - 1 : Nat) : Int) 8 = (((n - 1) % 8 : Nat) : Int) := by rw [Int.tmod_eq_emod_of_nonneg (by omega)]; rfl
  have e2 : Int.tdiv ((n - 1 : Nat) : Int) 8 = (((n - 1) / 8 : Nat) : Int) := by rw [Int.tdiv_eq_ediv_of_nonneg (by omega)]; rfl
  have w2 : IntKind.wrap .i64 (((n - 1) / 8 : Nat) : Int) = (((n - 1) / 8 : Nat) : Int) := wrap_i64 (by omega) (by omega)
  unfold bitmap_bit.f
  simp only [w, e1, e2, w2]
  rw [decide_eq_false (show ¬ (((n - 1) % 8 : Nat) : Int) < 0 by omega), cond_false, Int.toNat_natCast]
def okB (b : List Nat) : Prop := ∀ x ∈ b, x < 256
theorem okB_getD {b : List Nat} (h : okB b) (j : Nat) : b.getD j 0 < 256 := by
  rw [List.getD_eq_getElem?_getD]
  cases hj : b[j]? with
  | none => simp
  | some x => exact h x (List.mem_of_getElem? hj)
theorem stepB_len (b : List Nat) (n : Nat) : (stepB b n).length = b.length := List.length_set
theorem stepB_ok {b : List Nat} (h : okB b) (n : Nat) : okB (stepB b n) := fun x hx => by
  rcases List.mem_or_eq_of_mem_set hx with hx | rfl
  · exact h x hx
  · exact (orB_is (okB_getD h _) (by omega)).2
def bitB (b : List Nat) (n : Nat) : Bool := bitN (b.getD ((n - 1) / 8) 0) ((n - 1) % 8)
theorem stepB_bit {b : List Nat} (h : okB b) {m n : Nat} (hm : 1 ≤ m) (hm' : m ≤ 8 * b.length) (hn : 1 ≤ n) : bitB (stepB b m) n = (decide (n = m) || bitB b n) := by
  unfold bitB stepB
  have hlt : (m - 1) / 8 < b.length := by omega
  rw [List.getD_eq_getElem?_getD, List.getElem?_set]
  by_cases he : (m - 1) / 8 = (n - 1) / 8
  · rw [if_pos he, if_pos hlt]
    simp only [Option.getD_some]
    rw [orB_bit (okB_getD h _) (by omega) (by omega), he]
    congr 1
    rw [decide_eq_decide]
    omega
  · rw [if_neg he, ← List.getD_eq_getElem?_getD, decide_eq_false (fun e => he (by rw [e])), Bool.false_or]
def putAll (l : List Int) (b : List Nat) : List Nat := l.foldl (fun b n => stepB b n.toNat) b
theorem putAll_len : ∀ (l : List Int) (b : List Nat), (putAll l b).length = b.length
  | [], b => rfl
  | n :: l, b => by
    show (putAll l (stepB b n.toNat)).length = _
    rw [putAll_len l, stepB_len]
theorem putAll_ok : ∀ (l : List Int) {b : List Nat}, okB b → okB (putAll l b)
  | [], b, h => h
  | n :: l, b, h => putAll_ok l (stepB_ok h _)
theorem putAll_bit : ∀ (l : List Int) {b : List Nat}, okB b → (∀ n ∈ l, 1 ≤ n ∧ n ≤ 8 * (b.length : Int)) → ∀ n : Nat, 1 ≤ n → bitB (putAll l b) n = (decide ((n : Int) ∈ l) || bitB b n)
  | [], b, h, hl, n, hn => by simp [putAll]
  | m :: l, b, h, hl, n, hn => by
    have hm := hl m List.mem_cons_self
    show bitB (putAll l (stepB b m.toNat)) n = _
    rw [putAll_bit l (stepB_ok h _) (fun x hx => by rw [stepB_len]; exact hl x (List.mem_cons_of_mem _ hx)) n hn, stepB_bit h (by omega) (by omega) hn]
    have e : decide ((n : Int) ∈ m :: l) = (decide ((n : Int) ∈ l) || decide (n = m.toNat)) := by
      rw [Bool.eq_iff_iff]
      simp only [List.mem_cons, decide_eq_true_eq, Bool.or_eq_true]
      constructor
      · rintro (rfl | h)
        · right; omega
        · exact .inl h
      · rintro (h | h)
        · exact .inr h
        · left; omega
    rw [e, Bool.or_assoc]
theorem map_rounds {l : List Int} {b : List Nat} (hb : okB b) (hl : ∀ n ∈ l, 1 ≤ n ∧ n ≤ 8 * (b.length : Int)) (hlen : l.length ≤ 1000) (hbl : b.length ≤ 100) : bitmap_Map.l11 (l, (l.length : Int), 0, ints b) = some (ints (putAll l b)) := by
  have st := rounds_to (t := bitmap_Map.t11) (fun i => (l, (l.length : Int), (i : Int), ints (putAll (l.take i) b))) l.length fun i hi => by
    have hm := hl _ (List.getElem_mem hi)
    obtain ⟨m, hm'⟩ : ∃ m : Nat, l.getD i 0 = m := ⟨(l.getD i 0).toNat, by rw [getD_at hi]; omega⟩
    have hmi : l[i] = (m : Int) := by rw [← getD_at hi (d := 0)]; exact hm'
    rw [hmi] at hm
    have hpl := putAll_len (l.take i) b
    have hpo := putAll_ok (l.take i) hb
    obtain ⟨c, hc⟩ : ∃ c, putAll (l.take i) b = c := ⟨_, rfl⟩
    have next : putAll (l.take (i + 1)) b = stepB c m := by
      rw [take_up 0 hi, hm', ← hc]
      unfold putAll
      rw [List.foldl_append]
      rfl
    rw [hc] at hpl hpo
    have hlt : (m - 1) / 8 < c.length := by omega
    simp only [bitmap_Map.t11, hc, hm', decide_eq_true (show (i : Int) < (l.length : Int) by omega), ge0 i, Bool.and_self, cond_true, Int.toNat_natCast, bit_is (show 1 ≤ m by omega) (show m ≤ 1000 by omega), Option.bind_some, ge0 ((m - 1) / 8), List.length_map, decide_eq_true (show (((m - 1) / 8 : Nat) : Int) < (c.length : Int) by omega), Nat.zero_add, Bool.true_and,
      ints_getD, (orB_is (okB_getD hpo ((m - 1) / 8)) (show (m - 1) % 8 < 8 by omega)).1, wrap_up (show i < 9223372036854775807 by omega), next]
    rw [show Nat.blt ((m - 1) / 8) c.length = true by rw [Nat.blt_eq]; exact hlt]
    simp only [cond_true, stepB, ints, List.map_set]
  have : bitmap_Map.l11 (l, (l.length : Int), 0, ints b) = rounds bitmap_Map.t11 (l, (l.length : Int), ((0 : Nat) : Int), ints (putAll (l.take 0) b)) := rfl
  rw [this, st]
  refine rounds_end ?_
  simp [bitmap_Map.t11]
end Go.Proofs.YtpoiijkodpnobaaGreatDoor
end
section
set_option linter.unusedVariables false
set_option maxRecDepth 100000
namespace Go.Proofs.YtpoiijkodpnobaaGreatDoor
open Go Go.Fw
noncomputable def bursarref17_Map.t5 (s : ((List Int) × (Int × (Int × (List Bool))))) : Option (((List Int) × (Int × (Int × (List Bool)))) ⊕ ((Int × (List Bool)))) := (bif (decide ((s.2.2.1 < ((List.length s.1) : Int)))) then (bif ((decide (((0 : Int) ≤ s.2.2.1))) && (decide ((s.2.2.1 < ((List.length s.1) : Int))))) then (bif ((decide (((0 : Int) ≤ (List.getD s.1 (Int.toNat s.2.2.1) (0 : Int))))) && (decide (((List.getD s.1 (Int.toNat s.2.2.1) (0 : Int)) < (129 : Int))))) then (bif (true && (Nat.blt (0 + (Int.toNat (List.getD s.1 (Int.toNat s.2.2.1) (0 : Int)))) (List.length s.2.2.2))) then (bif ((decide (((0 : Int) ≤ s.2.2.1))) && (decide ((s.2.2.1 < ((List.length s.1) : Int))))) then (bif (decide (((List.getD s.1 (Int.toNat s.2.2.1) (0 : Int)) > (64 : Int)))) then (bif (true && (Nat.blt 1 (List.length (List.set s.2.2.2 (0 + (Int.toNat (List.getD s.1 (Int.toNat s.2.2.1) (0 : Int)))) true)))) then (some (.inl (s.1, ((128 : Int), ((IntKind.wrap .i64 (s.2.2.1 + (1 : Int))), (List.set (List.set s.2.2.2 (0 + (Int.toNat (List.getD s.1 (Int.toNat s.2.2.1) (0 : Int)))) true) 1 true)))))) else none) else (some (.inl (s.1, (s.2.1, ((IntKind.wrap .i64 (s.2.2.1 + (1 : Int))), (List.set s.2.2.2 (0 + (Int.toNat (List.getD s.1 (Int.toNat s.2.2.1) (0 : Int)))) true))))))) else none) else none) else none) else none) else (some (.inr (s.2.1, s.2.2.2))))
noncomputable def bursarref17_Map.l5 : ((List Int) × (Int × (Int × (List Bool)))) → Option ((Int × (List Bool))) := rounds bursarref17_Map.t5
noncomputable def bursarref17_Map.t9_6 (s : (Int × (ByteArray × (Int × (Int × (Int × (List Bool))))))) : Option ((Int × (ByteArray × (Int × (Int × (Int × (List Bool)))))) ⊕ ((Int × (ByteArray × (Int × (Int × (List Bool))))))) := (bif (decide ((s.2.2.2.2.1 < (8 : Int)))) then (bif ((decide (((0 : Int) ≤ (IntKind.wrap .i64 (s.2.2.1 + s.2.2.2.2.1))))) && (decide (((IntKind.wrap .i64 (s.2.2.1 + s.2.2.2.2.1)) < (129 : Int))))) then (bif (true && (Nat.blt (0 + (Int.toNat (IntKind.wrap .i64 (s.2.2.1 + s.2.2.2.2.1)))) (List.length s.2.2.2.2.2))) then (bif (List.getD s.2.2.2.2.2 (0 + (Int.toNat (IntKind.wrap .i64 (s.2.2.1 + s.2.2.2.2.1)))) false) then (some (.inl (s.1, (s.2.1, (s.2.2.1, ((IntKind.wrap .i64 ((IntKind.wrap .i64 ((2 : Int) * s.2.2.2.1)) + (1 : Int))), ((IntKind.wrap .i64 (s.2.2.2.2.1 + (1 : Int))), s.2.2.2.2.2))))))) else (some (.inl (s.1, (s.2.1, (s.2.2.1, ((IntKind.wrap .i64 ((2 : Int) * s.2.2.2.1)), ((IntKind.wrap .i64 (s.2.2.2.2.1 + (1 : Int))), s.2.2.2.2.2)))))))) else none) else none) else (some (.inr (s.1, (s.2.1, (s.2.2.1, (s.2.2.2.1, s.2.2.2.2.2)))))))
noncomputable def bursarref17_Map.l9_6 : (Int × (ByteArray × (Int × (Int × (Int × (List Bool)))))) → Option ((Int × (ByteArray × (Int × (Int × (List Bool)))))) := rounds bursarref17_Map.t9_6
noncomputable def bursarref17_Map.t9 (s : (Int × (ByteArray × (Int × (List Bool))))) : Option ((Int × (ByteArray × (Int × (List Bool)))) ⊕ (ByteArray)) := (bif (decide ((s.2.2.1 ≤ s.1))) then (((bursarref17_Map.l9_6 (s.1, (s.2.1, (s.2.2.1, ((0 : Int), ((0 : Int), s.2.2.2))))))).bind fun x4 => (bif (Nat.ble (x4.2.1.size + (ByteArray.mk (List.toArray (List.map (fun y5 => (UInt8.ofNat (Int.toNat y5))) ((IntKind.wrap .u8 x4.2.2.2.1) :: [])))).size) 9223372036854775807) then (some (.inl (x4.1, ((x4.2.1 ++ (ByteArray.mk (List.toArray (List.map (fun y5 => (UInt8.ofNat (Int.toNat y5))) ((IntKind.wrap .u8 x4.2.2.2.1) :: []))))), ((IntKind.wrap .i64 (x4.2.2.1 + (8 : Int))), x4.2.2.2.2))))) else none)) else (some (.inr s.2.1)))
noncomputable def bursarref17_Map.l9 : (Int × (ByteArray × (Int × (List Bool)))) → Option (ByteArray) := rounds bursarref17_Map.t9
noncomputable def bursarref17_Map.f (a : (List Int)) : Option ByteArray := (((bursarref17_Map.l5 (a, ((64 : Int), ((0 : Int), [false, false, false, false, false, false, false, false, false, false, false, false, false, false, false, false, false, false, false, false, false, false, false, false, false, false, false, false, false, false, false, false, false, false, false, false, false, false, false, false, false, false, false, false, false, false, false, false, false, false, false, false, false, false, false, false, false, false, false, false, false, false, false, false, false, false, false, false, false, false, false, false, false, false, false, false, false, false, false, false, false, false, false, false, false, false, false, false, false, false, false, false, false, false, false, false, false, false, false, false, false, false, false, false, false, false, false, false, false, false, false, false, false, false, false, false, false, false, false, false, false, false, false, false, false, false, false, false, false]))))).bind fun x1 => (((bursarref17_Map.l9 (x1.1, ((bs []), ((1 : Int), x1.2))))).bind fun x2 => (some x2)))
end Go.Proofs.YtpoiijkodpnobaaGreatDoor
end
section
set_option linter.unusedVariables false
set_option linter.unusedSimpArgs false
namespace Go.Proofs.YtpoiijkodpnobaaGreatDoor
open Go Go.Fw
theorem mayL_at {l : List Int} (h : mayL l = true) {i : Nat} (hi : i < l.length) : hasF (l.getD i 0) = true ∧ (0 < i → l.getD (i - 1) 0 < l.getD i 0) := by
  have := List.all_eq_true.1 h i (List.mem_range.2 hi)
  simp only [okAt, Bool.and_eq_true, Bool.or_eq_true, decide_eq_true_eq] at this
  exact ⟨this.1, fun h0 => by omega⟩
theorem mayL_mem {l : List Int} (h : mayL l = true) {n : Int} (hn : n ∈ l) : 2 ≤ n ∧ n ≤ 128 := by
  obtain ⟨i, hi, rfl⟩ := List.getElem_of_mem hn
  have := (mayL_at h hi).1
  rw [getD_at hi] at this
  exact hasF_bound this
theorem mayL_rise {l : List Int} (h : mayL l = true) {i : Nat} : ∀ {j : Nat}, i < j → j < l.length → l.getD i 0 < l.getD j 0
  | 0, hij, hj => by omega
  | j + 1, hij, hj => by
    have h1 := (mayL_at h hj).2 (by omega)
    rw [Nat.add_sub_cancel] at h1
    by_cases he : i = j
    · subst he; exact h1
    · have := mayL_rise h (i := i) (j := j) (by omega) (by omega)
      omega
def wide (l : List Int) : Bool := l.any fun n => decide (64 < n)
theorem wide_last {l : List Int} (h : mayL l = true) (hl : 0 < l.length) : decide (l.getD (l.length - 1) 0 > 64) = wide l := by
  rw [Bool.eq_iff_iff, decide_eq_true_eq]
  unfold wide
  rw [List.any_eq_true]
  constructor
  · intro hw
    refine ⟨_, ?_, decide_eq_true hw⟩
    rw [getD_at (by omega)]
    exact List.getElem_mem _
  · rintro ⟨n, hn, hw⟩
    obtain ⟨i, hi, rfl⟩ := List.getElem_of_mem hn
    have hw := of_decide_eq_true hw
    by_cases he : i = l.length - 1
    · subst he; rw [getD_at (by omega)]; exact hw
    · have := mayL_rise h (i := i) (j := l.length - 1) (by omega) (by omega)
      rw [getD_at hi] at this
      omega
def w16 : List Nat := [128, 0, 0, 0, 0, 0, 0, 0, 0, 0, 0, 0, 0, 0, 0, 0]
def z8 : List Nat := [0, 0, 0, 0, 0, 0, 0, 0]
def startB (l : List Int) : List Nat := bif wide l then w16 else z8
def mapL (l : List Int) : List Nat := putAll l (startB l)
def octs8 (b : List Nat) : List UInt8 := b.map UInt8.ofNat
theorem start_ok (l : List Int) : okB (startB l) := by
  unfold startB
  cases wide l
  · intro x hx; simp only [cond_false, z8, List.mem_cons, List.not_mem_nil, or_false] at hx; omega
  · intro x hx; simp only [cond_true, w16, List.mem_cons, List.not_mem_nil, or_false] at hx; omega
theorem start_len (l : List Int) : (startB l).length = bif wide l then 16 else 8 := by
  unfold startB
  cases wide l <;> rfl
theorem start_in {l : List Int} (h : mayL l = true) : ∀ n ∈ l, 1 ≤ n ∧ n ≤ 8 * ((startB l).length : Int) := fun n hn => by
  have := mayL_mem h hn
  rw [start_len]
  cases hw : wide l
  · have h64 : ¬ 64 < n := fun h64 => by
      have : wide l = true := List.any_eq_true.2 ⟨n, hn, decide_eq_true h64⟩
      rw [hw] at this; cases this
    simp only [cond_false]; omega
  · simp only [cond_true]; omega
theorem w16_bits : (List.range 129).all (fun n => decide (n = 0) || (bitB w16 n == decide (n = 1))) = true := by kernel_rfl
theorem z8_bits : (List.range 129).all (fun n => bitB z8 n == false) = true := by kernel_rfl
theorem start_bit (l : List Int) {n : Nat} (h1 : 1 ≤ n) (h2 : n ≤ 128) : bitB (startB l) n = (wide l && decide (n = 1)) := by
  unfold startB
  cases wide l
  · exact eq_of_beq (List.all_eq_true.1 z8_bits n (List.mem_range.2 (by omega)))
  · have := List.all_eq_true.1 w16_bits n (List.mem_range.2 (by omega))
    rw [decide_eq_false (show ¬ n = 0 by omega), Bool.false_or] at this
    exact eq_of_beq this
theorem mapL_bit {l : List Int} (h : mayL l = true) {n : Nat} (h1 : 1 ≤ n) (h2 : n ≤ 128) : bitB (mapL l) n = (decide ((n : Int) ∈ l) || (wide l && decide (n = 1))) := by
  unfold mapL
  rw [putAll_bit l (start_ok l) (start_in h) n h1, start_bit l h1 h2]
theorem mapL_len (l : List Int) : (mapL l).length = bif wide l then 16 else 8 := by unfold mapL; rw [putAll_len, start_len]
theorem mapL_ok (l : List Int) : okB (mapL l) := putAll_ok l (start_ok l)
theorem mk_ints (x : List Nat) : ByteArray.mk (List.toArray (List.map (fun y3 => UInt8.ofNat (Int.toNat y3)) (ints x))) = bs (octs8 x) := by
  unfold octs8 bs
  rw [List.map_map]
  rfl
theorem map_is {l : List Int} (hl : l.length ≤ 1000) : bitmap_Map.f l = some (bif mayL l then (bs (octs8 (mapL l)), 0) else (bs [], 1)) := by
  unfold bitmap_Map.f
  simp only [may_is (l := l) (by omega), Option.bind_some]
  cases hm : mayL l
  · rfl
  · have mr := map_rounds (l := l) (start_ok l) (start_in hm) hl (by rw [start_len]; cases wide l <;> simp)
    simp only [Bool.not_true, cond_false, cond_true]
    by_cases h0 : l.length = 0
    · have : l = [] := List.eq_nil_of_length_eq_zero h0
      subst this
      have : bitmap_Map.l11 ([], ((([] : List Int).length : Nat) : Int), 0, ints z8) = some (ints (putAll [] z8)) := mr
      rw [decide_eq_false (show ¬ ((([] : List Int).length : Nat) : Int) > 0 by simp), cond_false]
      have e : ([0, 0, 0, 0, 0, 0, 0, 0] : List Int) = ints z8 := rfl
      rw [e, this, Option.bind_some, mk_ints]
      rfl
    · have w : IntKind.wrap .i64 ((l.length : Int) - 1) = ((l.length - 1 : Nat) : Int) := by rw [wrap_i64 (by omega) (by omega)]; omega
      rw [decide_eq_true (show ((l.length : Nat) : Int) > 0 by omega), cond_true]
      simp only [w, ge0 (l.length - 1), decide_eq_true (show ((l.length - 1 : Nat) : Int) < (l.length : Int) by omega), Bool.and_self, cond_true, Int.toNat_natCast]
      rw [wide_last hm (by omega)]
      have e8 : ([0, 0, 0, 0, 0, 0, 0, 0] : List Int) = ints z8 := rfl
      have e16 : ([128, 0, 0, 0, 0, 0, 0, 0, 0, 0, 0, 0, 0, 0, 0, 0] : List Int) = ints w16 := rfl
      rw [e16, e8]
      unfold mapL
      unfold startB at mr ⊢
      cases hw : wide l <;> rw [hw] at mr <;> simp only [cond_false, cond_true] at mr ⊢ <;> rw [mr, Option.bind_some, mk_ints]
end Go.Proofs.YtpoiijkodpnobaaGreatDoor
end
section
set_option linter.unusedVariables false
set_option linter.unusedSimpArgs false
namespace Go.Proofs.YtpoiijkodpnobaaGreatDoor
open Go Go.Fw
def onStep (s : Int × List Bool) (n : Int) : Int × List Bool := bif decide (n > 64) then (128, (s.2.set n.toNat true).set 1 true) else (s.1, s.2.set n.toNat true)
def onAll (l : List Int) (s : Int × List Bool) : Int × List Bool := l.foldl onStep s
theorem onStep_len (s : Int × List Bool) (n : Int) : (onStep s n).2.length = s.2.length := by
  unfold onStep
  cases decide (n > 64) <;> simp
theorem onAll_len : ∀ (l : List Int) (s : Int × List Bool), (onAll l s).2.length = s.2.length
  | [], s => rfl
  | n :: l, s => by
    show (onAll l (onStep s n)).2.length = _
    rw [onAll_len l, onStep_len]
theorem set_getD (l : List Bool) (i j : Nat) (hi : i < l.length) : (l.set i true).getD j false = (decide (j = i) || l.getD j false) := by
  rw [List.getD_eq_getElem?_getD, List.getElem?_set]
  by_cases h : i = j
  · subst h; simp [hi]
  · rw [if_neg h, ← List.getD_eq_getElem?_getD, decide_eq_false (fun e => h e.symm), Bool.false_or]
theorem onAll_is : ∀ (l : List Int) (s : Int × List Bool), s.2.length = 129 → (∀ n ∈ l, 0 ≤ n ∧ n ≤ 128) → (onAll l s).1 = (bif wide l then 128 else s.1) ∧ ∀ j : Nat, (onAll l s).2.getD j false = (decide ((j : Int) ∈ l) || (wide l && decide (j = 1)) || s.2.getD j false)
  | [], s, hs, h => ⟨rfl, fun j => by simp [onAll, wide]⟩
  | n :: l, s, hs, h => by
    have hn := h n List.mem_cons_self
    obtain ⟨h1, h2⟩ := onAll_is l (onStep s n) (by rw [onStep_len]; exact hs) fun x hx => h x (List.mem_cons_of_mem _ hx)
    have e : onAll (n :: l) s = onAll l (onStep s n) := rfl
    have mem : ∀ j : Nat, decide ((j : Int) ∈ n :: l) = (decide (j = n.toNat) || decide ((j : Int) ∈ l)) := fun j => by
      rw [Bool.eq_iff_iff]
      simp only [List.mem_cons, decide_eq_true_eq, Bool.or_eq_true]
      constructor
      · rintro (h | h)
        · left; omega
        · exact .inr h
      · rintro (h | h)
        · left; omega
        · exact .inr h
    have hw : wide (n :: l) = (decide (64 < n) || wide l) := rfl
    rw [e, h1, hw]
    by_cases h64 : 64 < n
    · have hst : onStep s n = (128, (s.2.set n.toNat true).set 1 true) := by unfold onStep; rw [decide_eq_true (show n > 64 from h64)]; rfl
      refine ⟨by rw [hst, decide_eq_true h64]; cases wide l <;> rfl, fun j => ?_⟩
      rw [h2 j, hst, set_getD _ _ _ (by rw [List.length_set]; omega), set_getD _ _ _ (by omega), mem j, decide_eq_true h64]
      cases decide ((j : Int) ∈ l) <;> cases wide l <;> cases decide (j = 1) <;> cases decide (j = n.toNat) <;> simp
    · have hst : onStep s n = (s.1, s.2.set n.toNat true) := by unfold onStep; rw [decide_eq_false (show ¬ n > 64 from h64)]; rfl
      refine ⟨by rw [hst, decide_eq_false h64]; simp, fun j => ?_⟩
      rw [h2 j, hst, set_getD _ _ _ (by omega), mem j, decide_eq_false h64]
      cases decide ((j : Int) ∈ l) <;> cases wide l <;> cases decide (j = 1) <;> cases decide (j = n.toNat) <;> simp
def on0 : List Bool := List.replicate 129 false
theorem on_rounds {l : List Int} (hl : l.length ≤ 1000) (h : ∀ n ∈ l, 0 ≤ n ∧ n ≤ 128) : bursarref17_Map.l5 (l, 64, 0, on0) = some (onAll l (64, on0)) := by
  have st := rounds_to (t := bursarref17_Map.t5) (fun i => (l, (onAll (l.take i) (64, on0)).1, (i : Int), (onAll (l.take i) (64, on0)).2)) l.length fun i hi => by
    have hm := h _ (List.getElem_mem hi)
    obtain ⟨n, hn⟩ : ∃ n, l.getD i 0 = n := ⟨_, rfl⟩
    have hni : l[i] = n := by rw [← getD_at hi (d := 0)]; exact hn
    rw [hni] at hm
    have hlen : (onAll (l.take i) (64, on0)).2.length = 129 := by rw [onAll_len]; simp [on0]
    have next : onAll (l.take (i + 1)) (64, on0) = onStep (onAll (l.take i) (64, on0)) n := by
      rw [take_up 0 hi, hn]
      unfold onAll
      rw [List.foldl_append]
      rfl
    obtain ⟨s, hs⟩ : ∃ s, onAll (l.take i) (64, on0) = s := ⟨_, rfl⟩
    rw [hs] at hlen next
    simp only [bursarref17_Map.t5, hs, hn, next, decide_eq_true (show (i : Int) < (l.length : Int) by omega), ge0 i, Bool.and_self, cond_true, Int.toNat_natCast, decide_eq_true hm.1, decide_eq_true (show n < 129 by omega), Nat.zero_add, Bool.true_and, wrap_up (show i < 9223372036854775807 by omega), List.length_set]
    rw [show Nat.blt n.toNat s.2.length = true by rw [Nat.blt_eq]; omega, show Nat.blt 1 s.2.length = true by rw [Nat.blt_eq]; omega]
    unfold onStep
    cases decide (n > 64) <;> rfl
  have : bursarref17_Map.l5 (l, 64, 0, on0) = rounds bursarref17_Map.t5 (l, (onAll (l.take 0) (64, on0)).1, ((0 : Nat) : Int), (onAll (l.take 0) (64, on0)).2) := rfl
  rw [this, st]
  refine rounds_end ?_
  simp [bursarref17_Map.t5]
def byteOn (on : List Bool) (j k : Nat) : Nat := (List.range k).foldl (fun c k => 2 * c + (bif on.getD (8 * j + 1 + k) false then 1 else 0)) 0
theorem byteOn_up (on : List Bool) (j k : Nat) : byteOn on j (k + 1) = 2 * byteOn on j k + (bif on.getD (8 * j + 1 + k) false then 1 else 0) := by
  unfold byteOn
  rw [List.range_succ, List.foldl_append]
  rfl
theorem byteOn_lt (on : List Bool) (j : Nat) : ∀ k, byteOn on j k < 2 ^ k
  | 0 => by simp [byteOn]
  | k + 1 => by
    have := byteOn_lt on j k
    rw [byteOn_up, Nat.pow_succ]
    cases on.getD (8 * j + 1 + k) false <;> simp <;> omega
theorem inner_rounds {on : List Bool} {most : Int} {s : ByteArray} {j : Nat} (hj : j < 16) (hon : on.length = 129) : bursarref17_Map.l9_6 (most, s, ((8 * j + 1 : Nat) : Int), 0, 0, on) = some (most, s, ((8 * j + 1 : Nat) : Int), (byteOn on j 8 : Int), on) := by
  have st := rounds_to (t := bursarref17_Map.t9_6) (fun k => (most, s, ((8 * j + 1 : Nat) : Int), (byteOn on j k : Int), (k : Int), on)) 8 fun k hk => by
    have hlt := byteOn_lt on j k
    have h256 : 2 ^ k ≤ 128 := Nat.le_trans (Nat.pow_le_pow_right (by omega) (show k ≤ 7 by omega)) (by decide)
    have w1 : IntKind.wrap .i64 (((8 * j + 1 : Nat) : Int) + (k : Int)) = ((8 * j + 1 + k : Nat) : Int) := by rw [wrap_i64 (by omega) (by omega)]; omega
    have w2 : IntKind.wrap .i64 ((2 : Int) * (byteOn on j k : Int)) = ((2 * byteOn on j k : Nat) : Int) := by rw [wrap_i64 (by omega) (by omega)]; omega
    have w3 : IntKind.wrap .i64 (((2 * byteOn on j k : Nat) : Int) + 1) = ((2 * byteOn on j k + 1 : Nat) : Int) := by rw [wrap_i64 (by omega) (by omega)]; omega
    simp only [bursarref17_Map.t9_6, decide_eq_true (show (k : Int) < 8 by omega), cond_true, w1, ge0 (8 * j + 1 + k), decide_eq_true (show ((8 * j + 1 + k : Nat) : Int) < 129 by omega), Bool.and_self, Int.toNat_natCast, Nat.zero_add, Bool.true_and, w2, w3, wrap_up (show k < 9223372036854775807 by omega), byteOn_up]
    rw [show Nat.blt (8 * j + 1 + k) on.length = true by rw [Nat.blt_eq]; omega]
    cases on.getD (8 * j + 1 + k) false <;> rfl
  have : bursarref17_Map.l9_6 (most, s, ((8 * j + 1 : Nat) : Int), 0, 0, on) = rounds bursarref17_Map.t9_6 (most, s, ((8 * j + 1 : Nat) : Int), (byteOn on j 0 : Int), ((0 : Nat) : Int), on) := rfl
  rw [this, st]
  refine rounds_end ?_
  simp [bursarref17_Map.t9_6]
theorem outer_rounds {on : List Bool} (hon : on.length = 129) {m : Nat} (hm : m ≤ 16) : bursarref17_Map.l9 (((8 * m : Nat) : Int), bs [], 1, on) = some (bs ((List.range m).map fun j => UInt8.ofNat (byteOn on j 8))) := by
  have st := rounds_to (t := bursarref17_Map.t9) (fun j => (((8 * m : Nat) : Int), bs ((List.range j).map fun j => UInt8.ofNat (byteOn on j 8)), ((8 * j + 1 : Nat) : Int), on)) m fun j hj => by
    have hlt := byteOn_lt on j 8
    have w1 : IntKind.wrap .u8 ((byteOn on j 8 : Nat) : Int) = ((byteOn on j 8 : Nat) : Int) := by rw [wrap_u8]; omega
    have w2 : IntKind.wrap .i64 (((8 * j + 1 : Nat) : Int) + 8) = ((8 * (j + 1) + 1 : Nat) : Int) := by rw [wrap_i64 (by omega) (by omega)]; omega
    have hb : ByteArray.mk (List.toArray (List.map (fun y4 => UInt8.ofNat (Int.toNat y4)) [((byteOn on j 8 : Nat) : Int)])) = bs [UInt8.ofNat (byteOn on j 8)] := rfl
    simp only [bursarref17_Map.t9, decide_eq_true (show ((8 * j + 1 : Nat) : Int) ≤ ((8 * m : Nat) : Int) by omega), cond_true, inner_rounds (show j < 16 by omega) hon, Option.bind_some, w1, w2, hb, bs_size, bs_append, List.length_map, List.length_range]
    rw [Nat.ble_eq_true_of_le (by simp; omega), List.range_succ, List.map_append]
    rfl
  have : bursarref17_Map.l9 (((8 * m : Nat) : Int), bs [], 1, on) = rounds bursarref17_Map.t9 (((8 * m : Nat) : Int), bs ((List.range 0).map fun j => UInt8.ofNat (byteOn on j 8)), ((8 * 0 + 1 : Nat) : Int), on) := rfl
  rw [this, st]
  refine rounds_end ?_
  simp only [bursarref17_Map.t9, decide_eq_false (show ¬ ((8 * m + 1 : Nat) : Int) ≤ ((8 * m : Nat) : Int) by omega), cond_false]
theorem byte_of_bits {v : Nat} (hv : v < 256) : v = (List.range 8).foldl (fun c k => 2 * c + (bif bitN v k then 1 else 0)) 0 := of_decide_eq_true (List.all_eq_true.1 bits_all v (List.mem_range.2 hv))
theorem foldl_same {A : Type} {f g : A → Nat → A} : ∀ (l : List Nat) (a : A), (∀ k ∈ l, ∀ a, f a k = g a k) → l.foldl f a = l.foldl g a
  | [], a, h => rfl
  | k :: l, a, h => by
    simp only [List.foldl_cons, h k List.mem_cons_self]
    exact foldl_same l _ fun k hk => h k (List.mem_cons_of_mem _ hk)
theorem refMap_is {l : List Int} (hl : l.length ≤ 1000) (h : mayL l = true) : bursarref17_Map.f l = some (bs (octs8 (mapL l))) := by
  have hin : ∀ n ∈ l, 0 ≤ n ∧ n ≤ 128 := fun n hn => by have := mayL_mem h hn; omega
  obtain ⟨g1, g2⟩ := onAll_is l (64, on0) (by simp [on0]) hin
  have hlen : (onAll l (64, on0)).2.length = 129 := by rw [onAll_len]; simp [on0]
  have e : bursarref17_Map.f l = (bursarref17_Map.l5 (l, 64, 0, on0)).bind (fun (x1 : Int × List Bool) => (bursarref17_Map.l9 (x1.1, bs [], 1, x1.2)).bind fun x2 => some x2) := rfl
  rw [e]
  simp only [on_rounds hl hin, Option.bind_some]
  have hm : (onAll l (64, on0)).1 = ((8 * (bif wide l then 16 else 8) : Nat) : Int) := by rw [g1]; cases wide l <;> rfl
  rw [hm, outer_rounds hlen (by cases wide l <;> simp), Option.bind_some]
  congr 2
  unfold octs8
  refine List.ext_getElem (by rw [List.length_map, List.length_range, List.length_map, mapL_len]) fun j h1 h2 => ?_
  have hj : j < (bif wide l then 16 else 8) := by simpa using h1
  have hj16 : j < 16 := by cases hw : wide l <;> rw [hw] at hj <;> simp at hj <;> omega
  have hjm : j < (mapL l).length := by simpa using h2
  simp only [List.getElem_map, List.getElem_range]
  congr 1
  have hv : (mapL l).getD j 0 < 256 := okB_getD (mapL_ok l) j
  rw [← getD_at hjm (d := 0), byte_of_bits hv]
  unfold byteOn
  refine foldl_same _ _ fun k hk c => ?_
  have hk := List.mem_range.1 hk
  have hb := mapL_bit h (n := 8 * j + 1 + k) (by omega) (by omega)
  unfold bitB at hb
  rw [show (8 * j + 1 + k - 1) / 8 = j by omega, show (8 * j + 1 + k - 1) % 8 = k by omega] at hb
  rw [hb, g2]
  have : on0.getD (8 * j + 1 + k) false = false := by
    rw [List.getD_eq_getElem?_getD]
    unfold on0
    rw [List.getElem?_replicate]
    split <;> rfl
  rw [this, Bool.or_false]
end Go.Proofs.YtpoiijkodpnobaaGreatDoor
end
section
set_option linter.unusedVariables false
set_option linter.unusedSimpArgs false
namespace Go.Proofs.YtpoiijkodpnobaaGreatDoor
open Go Go.Fw
theorem octs_len (b : List Nat) : (octs8 b).length = b.length := List.length_map ..
end Go.Proofs.YtpoiijkodpnobaaGreatDoor
end
section
set_option linter.unusedVariables false
set_option linter.unusedSimpArgs false
namespace Go.Proofs.YtpoiijkodpnobaaGreatDoor
open Go Go.Fw
theorem octs_size {l : List Int} : (octs8 (mapL l)).length = bif wide l then 16 else 8 := by rw [octs_len, mapL_len]
end Go.Proofs.YtpoiijkodpnobaaGreatDoor
end
section
set_option linter.unusedVariables false
set_option maxRecDepth 100000
namespace Go.Proofs.YtpoiijkodpnobaaGreatDoor
open Go Go.Fw
abbrev mti_May.As : Shs := (.cons (.x T_api_Mti) .nil)
abbrev mti_May.m : Back := [(false, .b)]
noncomputable abbrev mti_May.H : HK := hk P G0 E0 J0 [] noLoops 4
theorem mti_May.rows : TabOK P G0 (tabF []) := rows_ok (ws := []) trivial
theorem mti_May.hok : HKOK P mti_May.H := hk_ok e0_ok j0_ok mti_May.rows (fun g n => noLoops_ok g n) 4
noncomputable def mti_May.f (a : (Int × (Bool × (Bool × Bool)))) : Option Bool := (bif (a.1 == (1 : Int)) then (bif (a.1 == (1 : Int)) then (bif (!a.2.2.1) then (some true) else (some (!a.2.2.2))) else (bif (a.1 == (6 : Int)) then (bif (a.1 == (6 : Int)) then (bif a.2.1 then (some false) else (bif (!a.2.2.1) then (some true) else (some (!a.2.2.2)))) else (some false)) else (bif (a.1 == (8 : Int)) then (bif a.2.1 then (some false) else (bif (!a.2.2.1) then (some true) else (some (!a.2.2.2)))) else (some false)))) else (bif (a.1 == (2 : Int)) then (bif (a.1 == (2 : Int)) then (bif (!a.2.2.1) then (some true) else (some (!a.2.2.2))) else (bif (a.1 == (6 : Int)) then (bif (a.1 == (6 : Int)) then (bif a.2.1 then (some false) else (bif (!a.2.2.1) then (some true) else (some (!a.2.2.2)))) else (some false)) else (bif (a.1 == (8 : Int)) then (bif a.2.1 then (some false) else (bif (!a.2.2.1) then (some true) else (some (!a.2.2.2)))) else (some false)))) else (bif (a.1 == (4 : Int)) then (bif (a.1 == (4 : Int)) then (bif (!a.2.2.1) then (some true) else (some (!a.2.2.2))) else (bif (a.1 == (6 : Int)) then (bif (a.1 == (6 : Int)) then (bif a.2.1 then (some false) else (bif (!a.2.2.1) then (some true) else (some (!a.2.2.2)))) else (some false)) else (bif (a.1 == (8 : Int)) then (bif a.2.1 then (some false) else (bif (!a.2.2.1) then (some true) else (some (!a.2.2.2)))) else (some false)))) else (bif (a.1 == (5 : Int)) then (bif (!a.2.2.1) then (some true) else (some (!a.2.2.2))) else (bif (a.1 == (6 : Int)) then (bif (a.1 == (6 : Int)) then (bif a.2.1 then (some false) else (bif (!a.2.2.1) then (some true) else (some (!a.2.2.2)))) else (some false)) else (bif (a.1 == (8 : Int)) then (bif a.2.1 then (some false) else (bif (!a.2.2.1) then (some true) else (some (!a.2.2.2)))) else (some false)))))))
theorem mti_May.ok : ∀ a : Vals mti_May.As.tys, fnK P mti_May.H (lp []) 63 mti_May.As mti_May.m a some = mti_May.f a := fun a => by kernel_rfl
noncomputable abbrev mti_May.row : Row := fnRow 63 mti_May.As mti_May.m mti_May.f
theorem mti_May.row_ok : RowOK P G0 mti_May.row := row_told mti_May.hok (lp_of (l := []) trivial) (fun _ => rfl) mti_May.ok
abbrev mti_bits.As : Shs := (.cons (.x (.l .b)) .nil)
abbrev mti_bits.m : Back := [(false, (.i .i64))]
noncomputable abbrev mti_bits.H : HK := hk P G0 E0 J0 [] noLoops 4
theorem mti_bits.rows : TabOK P G0 (tabF []) := rows_ok (ws := []) trivial
theorem mti_bits.hok : HKOK P mti_bits.H := hk_ok e0_ok j0_ok mti_bits.rows (fun g n => noLoops_ok g n) 4
noncomputable abbrev mti_bits.sh4 : SSh := ⟨[(3, (.x (.i .i64))), (6, (.x (.l .b))), (7, (.x (.i .i64))), (8, (.x (.i .i64)))], []⟩
noncomputable abbrev mti_bits.os4 : PEnds := [((.exit 0), ⟨[(3, (.x (.i .i64)))], []⟩)]
noncomputable def mti_bits.t4 (s : (Int × ((List Bool) × (Int × Int)))) : Option ((Int × ((List Bool) × (Int × Int))) ⊕ (Int)) := (bif (decide ((s.2.2.2 < s.2.2.1))) then (bif ((decide (((0 : Int) ≤ s.2.2.2))) && (decide ((s.2.2.2 < ((List.length s.2.1) : Int))))) then (bif (List.getD s.2.1 (Int.toNat s.2.2.2) false) then (bif (decide ((s.2.2.2 < (0 : Int)))) then none else (some (.inl ((bitsOp Go.BinOp.or Go.IntKind.i64 s.1 (IntKind.wrap .i64 ((1 : Int) * ((2 : Int) ^ (Min.min (Int.toNat s.2.2.2) 64))))), (s.2.1, (s.2.2.1, (IntKind.wrap .i64 (s.2.2.2 + (1 : Int))))))))) else (some (.inl (s.1, (s.2.1, (s.2.2.1, (IntKind.wrap .i64 (s.2.2.2 + (1 : Int))))))))) else none) else (some (.inr s.1)))
theorem mti_bits.t4_ok : ∀ s : Vals mti_bits.sh4.tys, turnK P mti_bits.H (lp []) (bodyAt (codeOf P 106) 4) 0 mti_bits.sh4 mti_bits.os4 s some = mti_bits.t4 s := fun s => by kernel_rfl
noncomputable def mti_bits.l4 : (Int × ((List Bool) × (Int × Int))) → Option (Int) := rounds mti_bits.t4
noncomputable def mti_bits.f (a : (List Bool)) : Option Int := (((mti_bits.l4 ((0 : Int), (a, (((List.length a) : Int), (0 : Int)))))).bind fun x1 => (some x1))
theorem mti_bits.ok : ∀ a : Vals mti_bits.As.tys, fnK P mti_bits.H (lp [(4, (NodeT.summ ⟨mti_bits.sh4, mti_bits.os4, mti_bits.l4⟩ 0))]) 106 mti_bits.As mti_bits.m a some = mti_bits.f a := fun a => by kernel_rfl
noncomputable abbrev mti_bits.row : Row := fnRow 106 mti_bits.As mti_bits.m mti_bits.f
theorem mti_bits.row_ok : RowOK P G0 mti_bits.row := row_told mti_bits.hok (lp_of (l := [(4, (NodeT.summ ⟨mti_bits.sh4, mti_bits.os4, mti_bits.l4⟩ 0))]) ⟨(loop_sum mti_bits.hok (by kernel_rfl) (by kernel_rfl) (l := []) trivial mti_bits.sh4 mti_bits.os4 (by kernel_rfl) mti_bits.t4 mti_bits.t4_ok), trivial⟩) (fun _ => rfl) mti_bits.ok
abbrev mti_text.As : Shs := (.cons (.x T_api_Mti) .nil)
abbrev mti_text.m : Back := [(false, .s)]
noncomputable abbrev mti_text.H : HK := hk P G0 E0 J0 [mti_bits.row] noLoops 4
theorem mti_text.rows : TabOK P G0 (tabF [mti_bits.row]) := rows_ok (ws := [mti_bits.row]) ⟨mti_bits.row_ok, trivial⟩
theorem mti_text.hok : HKOK P mti_text.H := hk_ok e0_ok j0_ok mti_text.rows (fun g n => noLoops_ok g n) 4
noncomputable def mti_text.f (a : (Int × (Bool × (Bool × Bool)))) : Option ByteArray := (((mti_bits.f (a.2.2.1 :: (a.2.1 :: [])))).bind fun x1 => (((mti_bits.f (a.2.2.2 :: []))).bind fun x2 => (some (ByteArray.mk (List.toArray (List.map (fun y3 => (UInt8.ofNat (Int.toNat y3))) ((48 : Int) :: ((IntKind.wrap .u8 (IntKind.wrap .i64 ((48 : Int) + a.1))) :: ((IntKind.wrap .u8 (IntKind.wrap .i64 ((48 : Int) + x1))) :: ((IntKind.wrap .u8 (IntKind.wrap .i64 ((48 : Int) + x2))) :: []))))))))))
theorem mti_text.ok : ∀ a : Vals mti_text.As.tys, fnK P mti_text.H (lp []) 64 mti_text.As mti_text.m a some = mti_text.f a := fun a => by kernel_rfl
noncomputable abbrev mti_text.row : Row := fnRow 64 mti_text.As mti_text.m mti_text.f
theorem mti_text.row_ok : RowOK P G0 mti_text.row := row_told mti_text.hok (lp_of (l := []) trivial) (fun _ => rfl) mti_text.ok
abbrev mti_Text.As : Shs := (.cons (.x T_api_Mti) .nil)
abbrev mti_Text.m : Back := [(false, .s), (false, (.i .i64))]
noncomputable abbrev mti_Text.H : HK := hk P G0 E0 J0 [mti_May.row, mti_text.row] noLoops 4
theorem mti_Text.rows : TabOK P G0 (tabF [mti_May.row, mti_text.row]) := rows_ok (ws := [mti_May.row, mti_text.row]) ⟨mti_May.row_ok, ⟨mti_text.row_ok, trivial⟩⟩
theorem mti_Text.hok : HKOK P mti_Text.H := hk_ok e0_ok j0_ok mti_Text.rows (fun g n => noLoops_ok g n) 4
noncomputable def mti_Text.f (a : (Int × (Bool × (Bool × Bool)))) : Option (ByteArray × Int) := (((mti_May.f a)).bind fun x1 => (bif (!x1) then (some ((bs []), (1 : Int))) else (((mti_text.f a)).bind fun x2 => (some (x2, (0 : Int))))))
theorem mti_Text.ok : ∀ a : Vals mti_Text.As.tys, fnK P mti_Text.H (lp []) 29 mti_Text.As mti_Text.m a some = mti_Text.f a := fun a => by kernel_rfl
noncomputable abbrev mti_Text.row : Row := fnRow 29 mti_Text.As mti_Text.m mti_Text.f
theorem mti_Text.row_ok : RowOK P G0 mti_Text.row := row_told mti_Text.hok (lp_of (l := []) trivial) (fun _ => rfl) mti_Text.ok
abbrev mti_Parse.As : Shs := (.cons (.x .s) .nil)
abbrev mti_Parse.m : Back := [(false, T_api_Mti), (false, (.i .i64))]
noncomputable abbrev mti_Parse.H : HK := hk P G0 E0 J0 [mti_May.row, mti_text.row] noLoops 4
theorem mti_Parse.rows : TabOK P G0 (tabF [mti_May.row, mti_text.row]) := rows_ok (ws := [mti_May.row, mti_text.row]) ⟨mti_May.row_ok, ⟨mti_text.row_ok, trivial⟩⟩
theorem mti_Parse.hok : HKOK P mti_Parse.H := hk_ok e0_ok j0_ok mti_Parse.rows (fun g n => noLoops_ok g n) 4
noncomputable def mti_Parse.f (a : ByteArray) : Option ((Int × (Bool × (Bool × Bool))) × Int) := (bif ((a.size : Int) != (4 : Int)) then (some (((0 : Int), (false, (false, false))), (17 : Int))) else (bif (true && (decide (((2 : Int) < (a.size : Int))))) then (bif (true && (decide (((1 : Int) < (a.size : Int))))) then (bif (true && (decide (((3 : Int) < (a.size : Int))))) then (((mti_May.f ((IntKind.wrap .i64 (IntKind.wrap .u8 ((bt a 1) - (48 : Int)))), (((bitsOp Go.BinOp.and Go.IntKind.u8 (IntKind.wrap .u8 ((bt a 2) - (48 : Int))) (2 : Int)) != (0 : Int)), (((bitsOp Go.BinOp.and Go.IntKind.u8 (IntKind.wrap .u8 ((bt a 2) - (48 : Int))) (1 : Int)) != (0 : Int)), ((bt a 3) == (49 : Int))))))).bind fun x1 => (bif (!x1) then (some (((0 : Int), (false, (false, false))), (17 : Int))) else (((mti_text.f ((IntKind.wrap .i64 (IntKind.wrap .u8 ((bt a 1) - (48 : Int)))), (((bitsOp Go.BinOp.and Go.IntKind.u8 (IntKind.wrap .u8 ((bt a 2) - (48 : Int))) (2 : Int)) != (0 : Int)), (((bitsOp Go.BinOp.and Go.IntKind.u8 (IntKind.wrap .u8 ((bt a 2) - (48 : Int))) (1 : Int)) != (0 : Int)), ((bt a 3) == (49 : Int))))))).bind fun x2 => (bif (!((ByteArray.toList x2) == (ByteArray.toList a))) then (some (((0 : Int), (false, (false, false))), (17 : Int))) else (some (((IntKind.wrap .i64 (IntKind.wrap .u8 ((bt a 1) - (48 : Int)))), (((bitsOp Go.BinOp.and Go.IntKind.u8 (IntKind.wrap .u8 ((bt a 2) - (48 : Int))) (2 : Int)) != (0 : Int)), (((bitsOp Go.BinOp.and Go.IntKind.u8 (IntKind.wrap .u8 ((bt a 2) - (48 : Int))) (1 : Int)) != (0 : Int)), ((bt a 3) == (49 : Int))))), (0 : Int))))))) else none) else none) else none))
theorem mti_Parse.ok : ∀ a : Vals mti_Parse.As.tys, fnK P mti_Parse.H (lp []) 28 mti_Parse.As mti_Parse.m a some = mti_Parse.f a := fun a => by kernel_rfl
noncomputable abbrev mti_Parse.row : Row := fnRow 28 mti_Parse.As mti_Parse.m mti_Parse.f
theorem mti_Parse.row_ok : RowOK P G0 mti_Parse.row := row_told mti_Parse.hok (lp_of (l := []) trivial) (fun _ => rfl) mti_Parse.ok
noncomputable def bursarref18_Parse.t4 (s : (ByteArray × ((List ByteArray) × (Int × (Int × (Bool × (Bool × Bool))))))) : Option ((ByteArray × ((List ByteArray) × (Int × (Int × (Bool × (Bool × Bool)))))) ⊕ ((Bool × (Int × (Bool × (Bool × Bool)))) ⊕ (Int × (Bool × (Bool × Bool))))) := (bif (decide ((s.2.2.1 < ((List.length s.2.1) : Int)))) then (bif ((decide (((0 : Int) ≤ s.2.2.1))) && (decide ((s.2.2.1 < ((List.length s.2.1) : Int))))) then (bif ((ByteArray.toList (List.getD s.2.1 (Int.toNat s.2.2.1) (bs []))) == (ByteArray.toList s.1)) then (bif (true && (decide (((2 : Int) < (s.1.size : Int))))) then (bif (true && (decide (((1 : Int) < (s.1.size : Int))))) then (bif ((IntKind.wrap .u8 ((bt s.1 2) - (48 : Int))) == (1 : Int)) then (bif (true && (decide (((3 : Int) < (s.1.size : Int))))) then (some (.inr (.inl (true, ((IntKind.wrap .i64 ((IntKind.wrap .i64 (bt s.1 1)) - (48 : Int))), ((decide (((IntKind.wrap .u8 ((bt s.1 2) - (48 : Int))) ≥ (2 : Int)))), (true, ((bt s.1 3) == (49 : Int))))))))) else none) else (bif (true && (decide (((3 : Int) < (s.1.size : Int))))) then (some (.inr (.inl (true, ((IntKind.wrap .i64 ((IntKind.wrap .i64 (bt s.1 1)) - (48 : Int))), ((decide (((IntKind.wrap .u8 ((bt s.1 2) - (48 : Int))) ≥ (2 : Int)))), (((IntKind.wrap .u8 ((bt s.1 2) - (48 : Int))) == (3 : Int)), ((bt s.1 3) == (49 : Int))))))))) else none)) else none) else none) else (some (.inl (s.1, (s.2.1, ((IntKind.wrap .i64 (s.2.2.1 + (1 : Int))), s.2.2.2)))))) else none) else (some (.inr (.inr s.2.2.2))))
noncomputable def bursarref18_Parse.l4 : (ByteArray × ((List ByteArray) × (Int × (Int × (Bool × (Bool × Bool)))))) → Option ((Bool × (Int × (Bool × (Bool × Bool)))) ⊕ (Int × (Bool × (Bool × Bool)))) := rounds bursarref18_Parse.t4
noncomputable def bursarref18_Parse.f (a : ByteArray) : Option ((Int × (Bool × (Bool × Bool))) × Bool) := (((bursarref18_Parse.l4 (a, ([(bs [48, 49, 48, 48]), (bs [48, 49, 48, 49]), (bs [48, 49, 49, 48]), (bs [48, 49, 50, 48]), (bs [48, 49, 50, 49]), (bs [48, 49, 51, 48]), (bs [48, 50, 48, 48]), (bs [48, 50, 48, 49]), (bs [48, 50, 49, 48]), (bs [48, 50, 50, 48]), (bs [48, 50, 50, 49]), (bs [48, 50, 51, 48]), (bs [48, 52, 48, 48]), (bs [48, 52, 48, 49]), (bs [48, 52, 49, 48]), (bs [48, 52, 50, 48]), (bs [48, 52, 50, 49]), (bs [48, 52, 51, 48]), (bs [48, 53, 48, 48]), (bs [48, 53, 48, 49]), (bs [48, 53, 49, 48]), (bs [48, 53, 50, 48]), (bs [48, 53, 50, 49]), (bs [48, 53, 51, 48]), (bs [48, 54, 48, 48]), (bs [48, 54, 48, 49]), (bs [48, 54, 49, 48]), (bs [48, 56, 48, 48]), (bs [48, 56, 48, 49]), (bs [48, 56, 49, 48])], ((0 : Int), ((0 : Int), (false, (false, false)))))))).bind fun x1 => (match x1 with | .inl x2 => (some (x2.2, x2.1)) | .inr x2 => (some (((0 : Int), (false, (false, false))), false))))
end Go.Proofs.YtpoiijkodpnobaaGreatDoor
end
section
set_option linter.unusedVariables false
set_option linter.unusedSimpArgs false
namespace Go.Proofs.YtpoiijkodpnobaaGreatDoor
open Go Go.Fw
abbrev M := Int × (Bool × (Bool × Bool))
def mayM (m : M) : Bool := ((m.1 == 1 || m.1 == 2 || m.1 == 4 || m.1 == 5) || ((m.1 == 6 || m.1 == 8) && !m.2.1)) && (!m.2.2.1 || !m.2.2.2)
theorem May_is (m : M) : mti_May.f m = some (mayM m) := by
  obtain ⟨c, a, b, d⟩ := m
  simp only [mti_May.f, mayM]
  by_cases h1 : c = 1
  · subst h1; cases a <;> cases b <;> cases d <;> rfl
  by_cases h2 : c = 2
  · subst h2; cases a <;> cases b <;> cases d <;> rfl
  by_cases h4 : c = 4
  · subst h4; cases a <;> cases b <;> cases d <;> rfl
  by_cases h5 : c = 5
  · subst h5; cases a <;> cases b <;> cases d <;> rfl
  by_cases h6 : c = 6
  · subst h6; cases a <;> cases b <;> cases d <;> rfl
  by_cases h8 : c = 8
  · subst h8; cases a <;> cases b <;> cases d <;> rfl
  have e1 : (c == 1) = false := by simp [h1]
  have e2 : (c == 2) = false := by simp [h2]
  have e4 : (c == 4) = false := by simp [h4]
  have e5 : (c == 5) = false := by simp [h5]
  have e6 : (c == 6) = false := by simp [h6]
  have e8 : (c == 8) = false := by simp [h8]
  simp only [e1, e2, e4, e5, e6, e8]
  rfl
def bI (b : Bool) : Int := bif b then 1 else 0
theorem bits1 (a : Bool) : mti_bits.f [a] = some (bI a) := by
  unfold mti_bits.f mti_bits.l4
  have h1 : mti_bits.t4 (0, ([a], (((List.length [a] : Nat) : Int), 0))) = some (.inl (bI a, ([a], (((List.length [a] : Nat) : Int), 1)))) := by cases a <;> decide +kernel
  have h2 : mti_bits.t4 (bI a, ([a], (((List.length [a] : Nat) : Int), 1))) = some (.inr (bI a)) := by cases a <;> decide +kernel
  rw [rounds_next h1, rounds_end h2]; rfl
theorem bits2 (a b : Bool) : mti_bits.f [a, b] = some (bI a + 2 * bI b) := by
  unfold mti_bits.f mti_bits.l4
  have h1 : mti_bits.t4 (0, ([a, b], (((List.length [a, b] : Nat) : Int), 0))) = some (.inl (bI a, ([a, b], (((List.length [a, b] : Nat) : Int), 1)))) := by cases a <;> cases b <;> decide +kernel
  have h2 : mti_bits.t4 (bI a, ([a, b], (((List.length [a, b] : Nat) : Int), 1))) = some (.inl (bI a + 2 * bI b, ([a, b], (((List.length [a, b] : Nat) : Int), 2)))) := by cases a <;> cases b <;> decide +kernel
  have h3 : mti_bits.t4 (bI a + 2 * bI b, ([a, b], (((List.length [a, b] : Nat) : Int), 2))) = some (.inr (bI a + 2 * bI b)) := by cases a <;> cases b <;> decide +kernel
  rw [rounds_next h1, rounds_next h2, rounds_end h3]; rfl
def textM (m : M) : ByteArray := ByteArray.mk (List.toArray (List.map (fun y => UInt8.ofNat (Int.toNat y)) [48, IntKind.wrap .u8 (IntKind.wrap .i64 (48 + m.1)), IntKind.wrap .u8 (IntKind.wrap .i64 (48 + (bI m.2.2.1 + 2 * bI m.2.1))), IntKind.wrap .u8 (IntKind.wrap .i64 (48 + bI m.2.2.2))]))
theorem text_M (m : M) : mti_text.f m = some (textM m) := by
  unfold mti_text.f
  rw [bits2, bits1]; rfl
theorem mtiText_is (m : M) : mti_Text.f m = some (bif mayM m then (textM m, 0) else (bs [], 1)) := by
  unfold mti_Text.f
  rw [May_is]
  cases mayM m with
  | false => rfl
  | true => simp only [Option.bind_some, Bool.not_true, cond_false, text_M]; rfl
end Go.Proofs.YtpoiijkodpnobaaGreatDoor
end
